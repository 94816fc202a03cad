/- The second reading's table for this seat: the functions that are known by the library's contracts. -/
import Derived.Test.YtkbdlifjhcmgbaaR5
import Derived.Test.YtkbdlifjhcmgbaaRIs
set_option linter.unusedVariables false
set_option linter.unusedSimpArgs false
set_option linter.unusedVariables false
set_option linter.unusedSimpArgs false
set_option maxRecDepth 100000
namespace Go.RR.M
open Go Go.RR
def S (f : Nat) (a : List V) : Option V := none
def H (f : Nat) (a : List V) (h : List Ob) : Option (Out × List Ob) :=
  if f = n_slices_Sort_sint_int then sortH a h
  else if f = n_slices_Compact_sint_int then compH a h
  else if f = n_slices_Grow_sapi_Span_api_Span then growH 2 a h
  else none
def C : Cx := ⟨T, S, H⟩
theorem CT {f : Nat} {F : F} (h : T f = some F) : C.T f = some F := h
end Go.RR.M
set_option maxRecDepth 100000
namespace Go.RR.M
open Go Go.RR
theorem awake0 (n : Nat) (h : List Ob) : acall C (n + 120) n_law03_awake [] h = some (.ret (.bool true), h) := by kernel_rfl
theorem awake (h : List Ob) : acw C n_law03_awake [] h = some (.ret (.bool true), h) := acall_acw 120 _ _ _ _ (awake0 0 h)
end Go.RR.M
set_option linter.unusedVariables false
set_option linter.unusedSimpArgs false
set_option maxRecDepth 100000
set_option maxHeartbeats 4000000
namespace Go.RR.M
open Go Go.RR
abbrev iv (n : Int) : V := .int .i64 n
/-- a list, one by one -/
theorem val_loop (Y : Yl) (y : Nat) (l : List Int) (hl : l.length ≤ 1000000000000) (H : Nat → List Ob) (hY : ∀ i (hi : i < l.length), Y [.mp y, iv l[i]] (H i) = some (.ret (.bool true), H (i + 1))) : ∀ k i, i + k = l.length →
    evw C Y i_slices_Values_sint_int_1_l0 [(0, .mp y), (5, intsV l), (6, iv l.length), (7, iv i)] (H i) = some (.ext 0, [(0, .mp y), (5, intsV l), (6, iv l.length), (7, iv l.length), (8, .bool false)], H l.length)
  | 0, i, e => by
    obtain rfl : i = l.length := by omega
    rw [r_slices_Values_sint_int_1_0]
    simp [b_slices_Values_sint_int_1_0]
  | k + 1, i, e => by
    have hlt : i < l.length := by omega
    have ih := val_loop Y y l hl H hY k (i + 1) (by omega)
    rw [r_slices_Values_sint_int_1_0]
    have h2 : (i : Int) < l.length := by omega
    have h3 : l[i]? = some l[i] := by simp [hlt]
    simp only [Int.natCast_add, Int.cast_ofNat_Int] at ih
    have hw := wrap_succ (i := i) (n := l.length) hlt (by omega)
    simp [b_slices_Values_sint_int_1_0, h2, h3, hw, hY i hlt]
    exact ih
theorem val_iter (Y : Yl) (y : Nat) (l : List Int) (hl : l.length ≤ 1000000000000) (H : Nat → List Ob) (hY : ∀ i (hi : i < l.length), Y [.mp y, iv l[i]] (H i) = some (.ret (.bool true), H (i + 1))) :
    itw C Y n_slices_Values_sint_int_1 [.mp y, .pin (intsV l) 0] (H 0) = some (.ret (.tup []), H l.length) := by
  rw [itw_T (CT T_slices_Values_sint_int_1)]
  have h0 := val_loop Y y l hl H hY l.length 0 (by omega)
  simp only [Int.cast_ofNat_Int] at h0
  simp [runW_fin, F_slices_Values_sint_int_1, i_slices_Values_sint_int_1, h0]
theorem values (l : List Int) (h : List Ob) : acw C n_slices_Values_sint_int [intsV l] h = some (.ret (.fn (.func n_slices_Values_sint_int_1) [] [.pin (intsV l) 0]), h) := by
  refine acw_pure (a2 := [intsV l]) (h' := [.row 1 [intsV l]]) (v := .fn (.func n_slices_Values_sint_int_1) [] [.ptr 0 0 0 1]) (v' := .fn (.func n_slices_Values_sint_int_1) [] [.pin (intsV l) 0]) (CT T_slices_Values_sint_int) rfl rfl ?_ (frz_box (by rfl) rfl) (by simp)
  simp [runW_fin, F_slices_Values_sint_int, i_slices_Values_sint_int]
abbrev accS (xs : List V) : List Ob := accH 1 [.row 1 [accV 1 2 xs], .lp .rdy] xs
theorem app_round (f : V) (xs : List V) (n : Int) (hx : xs.length ≤ 1000000000000) : rnd (evw C y0 ra_slices_AppendSeq_sint_int_0) (evw C y0 rb_slices_AppendSeq_sint_int_0) 1 [7] [(2, .ptr 0 0 0 1), (4, .nsl 1), (6, f)] [.mp 1, iv n] (accS xs) = some (.ret (.bool true), accS (xs ++ [iv n])) := by
  have k4 : bsfL (.int .i64 0) [iv n] = some (.sl 1 [iv n]) := rfl
  cases xs with
  | nil =>
    have k5 : ∀ nid, appV nid [.row 1 [.nsl 1], .lp .bsy] 1 8 (.nsl 1) (.sl 1 [iv n]) = some (.own nid 0 1 1, some (nid, .row 1 [iv n])) := fun nid => appV_nsl rfl (by simp) rfl (by simp) (by simp)
    simp [accV, accH, ra_slices_AppendSeq_sint_int_0, rb_slices_AppendSeq_sint_int_0, k4, k5]
  | cons a r =>
    have k5 : ∀ nid, appV nid [.row 1 [.own 2 0 (r.length + 1) (r.length + 1)], .lp .bsy, .row 1 (a :: r)] 1 8 (.own 2 0 (r.length + 1) (r.length + 1)) (.sl 1 [iv n]) = some (.own 2 0 (r.length + 1 + 1) (r.length + 1 + 1), some (2, .row 1 (a :: r ++ [iv n]))) := fun nid => appV_own rfl (by simp) rfl (by simp) (by simp) (by simp at hx ⊢; omega) (by simp at hx ⊢; omega)
    simp [accV, accH, ra_slices_AppendSeq_sint_int_0, rb_slices_AppendSeq_sint_int_0, k4, k5]
theorem appendSeq (l : List Int) (hl : l.length ≤ 1000000000000) : acw C n_slices_AppendSeq_sint_int [.nsl 1, .fn (.func n_slices_Values_sint_int_1) [] [.pin (intsV l) 0]] [] =
    some (.ret (accV 1 2 (l.map (V.int .i64))), accH 1 [.row 1 [accV 1 2 (l.map (V.int .i64))], .dead] (l.map (V.int .i64))) := by
  rw [acw_hm (CT T_slices_AppendSeq_sint_int) rfl]
  have key := val_iter (rnd (evw C y0 ra_slices_AppendSeq_sint_int_0) (evw C y0 rb_slices_AppendSeq_sint_int_0) 1 [7] [(2, .ptr 0 0 0 1), (4, .nsl 1), (6, .fn (.func n_slices_Values_sint_int_1) [] [.pin (intsV l) 0])]) 1 l hl (fun i => accS ((l.map (V.int .i64)).take i)) (fun i hi => by
    have := app_round (.fn (.func n_slices_Values_sint_int_1) [] [.pin (intsV l) 0]) ((l.map (V.int .i64)).take i) l[i] (by simp; omega)
    rw [this, List.take_succ_eq_append_getElem (by simpa using hi)]
    simp)
  have e0 : List.take l.length (l.map (V.int .i64)) = l.map (V.int .i64) := by rw [show l.length = (l.map (V.int .i64)).length by simp]; exact List.take_length
  simp only [e0, List.take_zero] at key
  by_cases e : l = []
  · subst e
    simp [accV, accH] at key
    simp [runW_fin, F_slices_AppendSeq_sint_int, i_slices_AppendSeq_sint_int, key, accV, accH]
  · simp [accV, accH, e] at key
    simp [runW_fin, F_slices_AppendSeq_sint_int, i_slices_AppendSeq_sint_int, key, accV, accH, e]
theorem collect (l : List Int) (hl : l.length ≤ 1000000000000) : acw C n_slices_Collect_int [.fn (.func n_slices_Values_sint_int_1) [] [.pin (intsV l) 0]] [] =
    some (.ret (accV 1 2 (l.map (V.int .i64))), accH 1 [.row 1 [accV 1 2 (l.map (V.int .i64))], .dead] (l.map (V.int .i64))) := by
  rw [acw_hm (CT T_slices_Collect_int) rfl]
  simp [runW_fin, F_slices_Collect_int, i_slices_Collect_int, appendSeq l hl]
theorem sorted (l : List Int) (hl : l.length ≤ 1000000000000) (h : List Ob) : acw C n_slices_Sorted_int [.fn (.func n_slices_Values_sint_int_1) [] [.pin (intsV l) 0]] h = some (.ret (intsV (sortI l)), h) := by
  have hc := collect l hl
  by_cases e : l = []
  · subst e
    simp [accV, accH] at hc
    have h1 : ∀ h, acw C n_slices_Sort_sint_int [.nsl 1] h = some (.ret (.tup []), h) := fun h => acw_H rfl rfl
    refine acw_pure (a2 := [.fn (.func n_slices_Values_sint_int_1) [] [.pin (intsV []) 0]]) (h' := [.row 1 [.nsl 1], .dead]) (v := .nsl 1) (CT T_slices_Sorted_int) rfl rfl ?_ rfl (by simp)
    simp [runW_fin, F_slices_Sorted_int, i_slices_Sorted_int, hc, h1]
  · simp [accV, accH, e] at hc
    have hp : 0 < l.length := List.length_pos_iff.2 e
    have hs : (sortI l).length = l.length := sortI_length l
    have h1 : acw C n_slices_Sort_sint_int [.own 2 0 l.length l.length] [.row 1 [.own 2 0 l.length l.length], .dead, .row 1 (l.map (V.int .i64))] = some (.ret (.tup []), [.row 1 [.own 2 0 l.length l.length], .dead, .row 1 ((sortI l).map (V.int .i64))]) := acw_H rfl (by
      simp only [C, H, if_true, sortH, List.getElem?_cons_succ, List.getElem?_cons_zero, ints_map, List.length_map, true_and]
      rw [if_pos (by omega)]
      rfl)
    refine acw_pure (a2 := [.fn (.func n_slices_Values_sint_int_1) [] [.pin (intsV l) 0]]) (h' := [.row 1 [.own 2 0 l.length l.length], .dead, .row 1 ((sortI l).map (V.int .i64))]) (v := .own 2 0 l.length l.length) (CT T_slices_Sorted_int) rfl rfl ?_ (frz_own_ints rfl hs.symm 10) (by simp)
    simp [runW_fin, F_slices_Sorted_int, i_slices_Sorted_int, hc, h1]
end Go.RR.M
set_option linter.unusedVariables false
set_option linter.unusedSimpArgs false
set_option maxRecDepth 100000
namespace Go.RR.M
open Go Go.RR
theorem spans_Right_loop (l : List Sp) (hl : l.length ≤ 4611686018427387904) : ∀ (d i : Nat) (p : Option Int) (h : List Ob), i + d = l.length → (∀ (hi : 0 < i) (hi' : i - 1 < l.length), p = some l[i - 1].hi ∧ -1048576 ≤ l[i - 1].hi ∧ l[i - 1].hi ≤ 1048576) → (i = 0 → p = none) →
    ∃ fr' h', evw C y0 i_spans_Right_l0 [(0, spsV l), (5, spsV l), (6, .int .i64 l.length), (7, .int .i64 i)] h =
      some (if spR p (l.drop i) = true then (.ext 0, fr', h') else (.ret, [(2, .bool false)], h')) := by
  intro d
  induction d with
  | zero =>
    intro i p h hi hp h0
    have : i = l.length := by omega
    subst this
    rw [r_spans_Right_0, List.drop_length]
    refine ⟨[(0, spsV l), (5, spsV l), (6, .int .i64 l.length), (7, .int .i64 l.length), (8, .bool false)], h, ?_⟩
    simp [b_spans_Right_0, spR, spsV]
  | succ d ih =>
    intro i p h hi hp h0
    have hlt : i < l.length := by omega
    have hw := wrap_succ hlt (by omega)
    rw [r_spans_Right_0, List.drop_eq_getElem_cons hlt]
    simp only [spR]
    by_cases c1 : l[i].hi < l[i].lo
    · have c1' : ¬ (l[i].lo ≤ l[i].hi) := by omega
      exact ⟨[], h ++ [.row 2 [spV l[i]]], by simp [b_spans_Right_0, spsV, spV, hlt, c1, c1']⟩
    have c1' : l[i].lo ≤ l[i].hi := by omega
    by_cases c2 : l[i].lo < -1048576
    · have c2' : ¬ (-1048576 ≤ l[i].lo) := by omega
      exact ⟨[], h ++ [.row 2 [spV l[i]]], by simp [b_spans_Right_0, spsV, spV, hlt, c1, c1', c2, c2']⟩
    have c2' : -1048576 ≤ l[i].lo := by omega
    by_cases c3 : 1048576 < l[i].hi
    · have c3' : ¬ (l[i].hi ≤ 1048576) := by omega
      exact ⟨[], h ++ [.row 2 [spV l[i]]], by simp [b_spans_Right_0, spsV, spV, hlt, c1, c1', c2, c2', c3, c3']⟩
    have c3' : l[i].hi ≤ 1048576 := by omega
    obtain ⟨fr', h', ih⟩ := ih (i + 1) (some l[i].hi) (h ++ [.row 2 [spV l[i]]]) (by omega) (fun _ _ => ⟨by simp, by simp; omega, by simpa using c3'⟩) (by omega)
    simp only [Int.natCast_add, Int.cast_ofNat_Int, spsV, spV] at ih
    by_cases c4 : 0 < i
    · have hlt' : i - 1 < l.length := by omega
      obtain ⟨hp1, hp2, hp3⟩ := hp c4 hlt'
      subst hp1
      have w1 : IntKind.i64.wrap (l[i - 1].hi + 1) = l[i - 1].hi + 1 := wrap64 (by omega) (by omega)
      have w2 : IntKind.i64.wrap ((i : Int) - 1) = ((i - 1 : Nat) : Int) := by rw [wrap64 (by omega) (by omega)]; omega
      by_cases c5 : l[i].lo ≤ l[i - 1].hi + 1
      · have c5' : ¬ (l[i - 1].hi + 1 < l[i].lo) := by omega
        exact ⟨[], h ++ [.row 2 [spV l[i]]], by simp [b_spans_Right_0, spsV, spV, hlt, c1, c1', c2, c2', c3, c3', c4, w1, w2, hlt', c5, c5']⟩
      · have c5' : l[i - 1].hi + 1 < l[i].lo := by omega
        refine ⟨fr', h', ?_⟩
        simp only [c1', c2', c3', c5', decide_true, Bool.true_and, ← ih]
        simp [b_spans_Right_0, spsV, spV, hlt, c1, c1', c2, c2', c3, c3', c4, w1, w2, hlt', c5, hw]
    · have hi0 : i = 0 := by omega
      have hp0 := h0 hi0
      subst hp0
      refine ⟨fr', h', ?_⟩
      simp only [c1', c2', c3', decide_true, Bool.true_and, ← ih]
      simp [b_spans_Right_0, spsV, spV, hlt, c1, c1', c2, c2', c3, c3', c4, hw]
theorem spans_Right (l : List Sp) (hl : l.length ≤ 4611686018427387904) (h : List Ob) : acw C n_spans_Right [spsV l] h = some (.ret (.bool (spR none l)), h) := by
  obtain ⟨fr', h', hloop⟩ := spans_Right_loop l hl l.length 0 none [] (by omega) (fun h => absurd h (by omega)) (fun _ => rfl)
  refine acw_pure (a2 := [spsV l]) (h' := h') (v := .bool (spR none l)) (CT T_spans_Right) rfl rfl ?_ rfl (by simp)
  simp only [List.drop_zero, Int.cast_ofNat_Int] at hloop
  rcases Bool.eq_false_or_eq_true (spR none l) with hb | hb
  · simp only [hb, if_true, spsV] at hloop
    simp [runW_fin, F_spans_Right, i_spans_Right, hb, hloop, spsV]
  · simp only [hb, Bool.false_eq_true, if_false, spsV] at hloop
    simp [runW_fin, F_spans_Right, i_spans_Right, hb, hloop, spsV]
end Go.RR.M
set_option linter.unusedVariables false
set_option linter.unusedSimpArgs false
set_option maxRecDepth 100000
namespace Go.RR
def spS : List Sp → Int
  | [] => 0
  | s :: r => (s.hi - s.lo + 1) + spS r
theorem spR_all : ∀ {l : List Sp} {p : Option Int}, spR p l = true → ∀ s ∈ l, s.lo ≤ s.hi ∧ -1048576 ≤ s.lo ∧ s.hi ≤ 1048576
  | [], _, _ => by simp
  | s :: r, p, h => by
    simp only [spR, Bool.and_eq_true, decide_eq_true_eq] at h
    intro x hx
    rcases List.mem_cons.1 hx with rfl | hx
    · exact ⟨h.1.1.1.1, h.1.1.1.2, h.1.1.2⟩
    · exact spR_all h.2 x hx
theorem spS_nn : ∀ {l : List Sp}, (∀ s ∈ l, s.lo ≤ s.hi ∧ -1048576 ≤ s.lo ∧ s.hi ≤ 1048576) → 0 ≤ spS l
  | [], _ => by simp [spS]
  | s :: r, h => by
    have h1 := h s (by simp)
    have h2 := spS_nn (l := r) fun x hx => h x (by simp [hx])
    simp only [spS]
    omega
theorem spS_le : ∀ {l : List Sp} {q : Int}, spR (some q) l = true → spS l ≤ 1048576 - q ∨ l = []
  | [], _, _ => .inr rfl
  | s :: r, q, h => by
    simp only [spR, Bool.and_eq_true, decide_eq_true_eq] at h
    left
    simp only [spS]
    rcases spS_le h.2 with h2 | rfl
    · omega
    · simp only [spS]; omega
theorem spS_top {l : List Sp} (h : spR none l = true) : 0 ≤ spS l ∧ spS l ≤ 2097153 := by
  refine ⟨spS_nn (spR_all h), ?_⟩
  cases l with
  | nil => simp [spS]
  | cons s r =>
    simp only [spR, Bool.and_eq_true, decide_eq_true_eq] at h
    simp only [spS]
    rcases spS_le h.2 with h2 | rfl
    · omega
    · simp only [spS]; omega
def spN (l : List Sp) : Int := if spR none l = true then spS l else 0
theorem spN_top (l : List Sp) : 0 ≤ spN l ∧ spN l ≤ 2097153 := by
  unfold spN
  split
  · rename_i h; exact spS_top h
  · omega
end Go.RR
namespace Go.RR.M
open Go Go.RR
theorem spans_Size_loop (l : List Sp) (hl : l.length ≤ 4611686018427387904) (hb : ∀ s ∈ l, s.lo ≤ s.hi ∧ -1048576 ≤ s.lo ∧ s.hi ≤ 1048576) : ∀ (d i : Nat) (n : Int) (h : List Ob), i + d = l.length → 0 ≤ n → n + spS (l.drop i) ≤ 2097153 →
    ∃ fr' h', evw C y0 i_spans_Size_l0 [(3, .int .i64 n), (9, spsV l), (10, .int .i64 l.length), (11, .int .i64 i)] h = some (.ext 0, fr', h') ∧ get fr' 3 = .int .i64 (n + spS (l.drop i)) := by
  intro d
  induction d with
  | zero =>
    intro i n h hi h0 hn
    have : i = l.length := by omega
    subst this
    rw [r_spans_Size_0, List.drop_length]
    exact ⟨[(3, .int .i64 n), (9, spsV l), (10, .int .i64 l.length), (11, .int .i64 l.length), (12, .bool false)], h, by simp [b_spans_Size_0, spsV], by simp [spS]⟩
  | succ d ih =>
    intro i n h hi h0 hn
    have hlt : i < l.length := by omega
    have hw := wrap_succ hlt (by omega)
    have hs := hb _ (List.getElem_mem hlt)
    have hnn := spS_nn (l := l.drop (i + 1)) fun s hs => hb s (List.mem_of_mem_drop hs)
    rw [List.drop_eq_getElem_cons hlt] at hn ⊢
    simp only [spS] at hn ⊢
    obtain ⟨fr', h', ih1, ih2⟩ := ih (i + 1) (n + (l[i].hi - l[i].lo + 1)) (h ++ [.row 2 [spV l[i]]]) (by omega) (by omega) (by omega)
    refine ⟨fr', h', ?_, by rw [ih2]; congr 1; omega⟩
    rw [r_spans_Size_0, ← ih1]
    have w1 : IntKind.i64.wrap (l[i].hi - l[i].lo) = l[i].hi - l[i].lo := wrap64 (by omega) (by omega)
    have w2 : IntKind.i64.wrap (l[i].hi - l[i].lo + 1) = l[i].hi - l[i].lo + 1 := wrap64 (by omega) (by omega)
    have w3 : IntKind.i64.wrap (n + (l[i].hi - l[i].lo + 1)) = n + (l[i].hi - l[i].lo + 1) := wrap64 (by omega) (by omega)
    simp [b_spans_Size_0, spsV, spV, hlt, hw, w1, w2, w3]
theorem spans_Size (l : List Sp) (hl : l.length ≤ 4611686018427387904) (h : List Ob) : acw C n_spans_Size [spsV l] h = some (.ret (.int .i64 (spN l)), h) := by
  have hr := spans_Right l hl
  unfold spN
  rcases Bool.eq_false_or_eq_true (spR none l) with hb | hb
  · have ht := spS_top hb
    obtain ⟨fr', h', l1, l2⟩ := spans_Size_loop l hl (spR_all hb) l.length 0 0 [] (by omega) (by omega) (by simp; omega)
    simp only [List.drop_zero, Int.cast_ofNat_Int, Int.zero_add] at l1 l2
    refine acw_pure (h' := h') (v := .int .i64 (spS l)) (CT T_spans_Size) rfl rfl ?_ (by simp only [hb, if_true]; rfl) (by simp [hb])
    simp only [spsV] at l1 hr
    simp [runW_fin, F_spans_Size, i_spans_Size, hr, hb, l1, l2, spsV]
  · refine acw_pure (h' := []) (v := .int .i64 0) (CT T_spans_Size) rfl rfl ?_ (by simp only [hb]; rfl) (by simp [hb])
    simp only [spsV] at hr
    simp [runW_fin, F_spans_Size, i_spans_Size, hr, hb, spsV]
theorem ref03_Right_loop (l : List Sp) (hl : l.length ≤ 4611686018427387904) : ∀ (d i : Nat) (p : Option Int), i + d = l.length → (∀ (hi : 0 < i) (hi' : i - 1 < l.length), p = some l[i - 1].hi ∧ -1048576 ≤ l[i - 1].hi ∧ l[i - 1].hi ≤ 1048576) → (i = 0 → p = none) →
    evw C y0 i_ref03_Right_l0 [(0, spsV l), (3, .int .i64 i)] [] =
      some (if spR p (l.drop i) = true then (.ext 0, [(0, spsV l), (3, .int .i64 l.length), (7, .bool false)], []) else (.ret, [(2, .bool false)], [])) := by
  intro d
  induction d with
  | zero =>
    intro i p hi hp h0
    have : i = l.length := by omega
    subst this
    rw [r_ref03_Right_0, List.drop_length]
    simp [b_ref03_Right_0, spR, spsV]
  | succ d ih =>
    intro i p hi hp h0
    have hlt : i < l.length := by omega
    have hw := wrap_succ hlt (by omega)
    rw [r_ref03_Right_0, List.drop_eq_getElem_cons hlt]
    simp only [spR]
    by_cases c2 : l[i].lo < -1048576
    · have c2' : ¬ (-1048576 ≤ l[i].lo) := by omega
      simp [b_ref03_Right_0, spsV, spV, hlt, c2, c2']
    have c2' : -1048576 ≤ l[i].lo := by omega
    by_cases c3 : 1048576 < l[i].hi
    · have c3' : ¬ (l[i].hi ≤ 1048576) := by omega
      simp [b_ref03_Right_0, spsV, spV, hlt, c2, c2', c3, c3']
    have c3' : l[i].hi ≤ 1048576 := by omega
    by_cases c1 : l[i].hi < l[i].lo
    · have c1' : ¬ (l[i].lo ≤ l[i].hi) := by omega
      simp [b_ref03_Right_0, spsV, spV, hlt, c1, c1', c2, c2', c3, c3']
    have c1' : l[i].lo ≤ l[i].hi := by omega
    have ih := ih (i + 1) (some l[i].hi) (by omega) (fun _ _ => ⟨by simp, by simp; omega, by simpa using c3'⟩) (by omega)
    simp only [Int.natCast_add, Int.cast_ofNat_Int, spsV, spV] at ih
    by_cases c4 : 0 < i
    · have hlt' : i - 1 < l.length := by omega
      obtain ⟨hp1, hp2, hp3⟩ := hp c4 hlt'
      subst hp1
      have w1 : IntKind.i64.wrap (l[i].lo - l[i - 1].hi) = l[i].lo - l[i - 1].hi := wrap64 (by omega) (by omega)
      have w2 : IntKind.i64.wrap ((i : Int) - 1) = ((i - 1 : Nat) : Int) := by rw [wrap64 (by omega) (by omega)]; omega
      by_cases c5 : l[i].lo - l[i - 1].hi < 2
      · have c5' : ¬ (l[i - 1].hi + 1 < l[i].lo) := by omega
        simp [b_ref03_Right_0, spsV, spV, hlt, c1, c1', c2, c2', c3, c3', c4, w1, w2, hlt', c5, c5']
      · have c5' : l[i - 1].hi + 1 < l[i].lo := by omega
        simp only [c1', c2', c3', c5', decide_true, Bool.true_and, spsV, spV, ← ih]
        simp [b_ref03_Right_0, spsV, spV, hlt, c1, c1', c2, c2', c3, c3', c4, w1, w2, hlt', c5, hw]
    · have hi0 : i = 0 := by omega
      have hp0 := h0 hi0
      subst hp0
      simp only [c1', c2', c3', decide_true, Bool.true_and, spsV, spV, ← ih]
      simp [b_ref03_Right_0, spsV, spV, hlt, c1, c1', c2, c2', c3, c3', c4, hw]
theorem ref03_Right (l : List Sp) (hl : l.length ≤ 4611686018427387904) (h : List Ob) : acw C n_ref03_Right [spsV l] h = some (.ret (.bool (spR none l)), h) := by
  have hloop := ref03_Right_loop l hl l.length 0 none (by omega) (fun h => absurd h (by omega)) (fun _ => rfl)
  refine acw_pure (h' := []) (v := .bool (spR none l)) (CT T_ref03_Right) rfl rfl ?_ rfl (by simp)
  simp only [List.drop_zero, Int.cast_ofNat_Int] at hloop
  rcases Bool.eq_false_or_eq_true (spR none l) with hb | hb
  · simp only [hb, if_true, spsV] at hloop
    simp [runW_fin, F_ref03_Right, i_ref03_Right, hb, hloop, spsV]
  · simp only [hb, Bool.false_eq_true, if_false, spsV] at hloop
    simp [runW_fin, F_ref03_Right, i_ref03_Right, hb, hloop, spsV]
theorem ref03_Size_loop (l : List Sp) (hl : l.length ≤ 4611686018427387904) (hr : spR none l = true) (hb : ∀ s ∈ l, s.lo ≤ s.hi ∧ -1048576 ≤ s.lo ∧ s.hi ≤ 1048576) : ∀ (d i : Nat) (n : Int), i + d = l.length → 0 ≤ n → n + spS (l.drop i) ≤ 2097153 →
    ∃ fr', evw C y0 i_ref03_Size_l0 [(0, spsV l), (3, .int .i64 n), (4, .int .i64 i)] [] = some (.ext 0, fr', []) ∧ get fr' 3 = .int .i64 (n + spS (l.drop i)) := by
  intro d
  have hright := ref03_Right l hl
  rw [hr] at hright
  induction d with
  | zero =>
    intro i n hi h0 hn
    have : i = l.length := by omega
    subst this
    rw [r_ref03_Size_0, List.drop_length]
    exact ⟨[(0, spsV l), (3, .int .i64 n), (4, .int .i64 l.length), (12, .bool false)], by simp [b_ref03_Size_0, spsV], by simp [spS]⟩
  | succ d ih =>
    intro i n hi h0 hn
    have hlt : i < l.length := by omega
    have hw := wrap_succ hlt (by omega)
    have hs := hb _ (List.getElem_mem hlt)
    have hnn := spS_nn (l := l.drop (i + 1)) fun s hs => hb s (List.mem_of_mem_drop hs)
    rw [List.drop_eq_getElem_cons hlt] at hn ⊢
    simp only [spS] at hn ⊢
    obtain ⟨fr', ih1, ih2⟩ := ih (i + 1) (n + (l[i].hi - l[i].lo + 1)) (by omega) (by omega) (by omega)
    refine ⟨fr', ?_, by rw [ih2]; congr 1; omega⟩
    rw [r_ref03_Size_0, ← ih1]
    have w1 : IntKind.i64.wrap (n + l[i].hi) = n + l[i].hi := wrap64 (by omega) (by omega)
    have w2 : IntKind.i64.wrap (n + l[i].hi + 1) = n + l[i].hi + 1 := wrap64 (by omega) (by omega)
    have w3 : IntKind.i64.wrap (n + l[i].hi + 1 - l[i].lo) = n + (l[i].hi - l[i].lo + 1) := by rw [wrap64 (by omega) (by omega)]; omega
    simp only [spsV] at hright
    simp [b_ref03_Size_0, spsV, spV, hlt, hw, w1, w2, w3, hright]
theorem ref03_Size (l : List Sp) (hl : l.length ≤ 4611686018427387904) (h : List Ob) : acw C n_ref03_Size [spsV l] h = some (.ret (.int .i64 (spN l)), h) := by
  have hr := ref03_Right l hl
  unfold spN
  rcases Bool.eq_false_or_eq_true (spR none l) with hb | hb
  · have ht := spS_top hb
    obtain ⟨fr', l1, l2⟩ := ref03_Size_loop l hl hb (spR_all hb) l.length 0 0 (by omega) (by omega) (by simp; omega)
    simp only [List.drop_zero, Int.cast_ofNat_Int, Int.zero_add] at l1 l2
    refine acw_pure (h' := []) (v := .int .i64 (spS l)) (CT T_ref03_Size) rfl rfl ?_ (by simp only [hb, if_true]; rfl) (by simp [hb])
    simp only [spsV] at l1 hr
    simp [runW_fin, F_ref03_Size, i_ref03_Size, hr, hb, l1, l2, spsV]
  · refine acw_pure (h' := []) (v := .int .i64 0) (CT T_ref03_Size) rfl rfl ?_ (by simp only [hb]; rfl) (by simp [hb])
    simp only [spsV] at hr
    by_cases hn : 0 < l.length
    · have hl0 : evw C y0 i_ref03_Size_l0 [(0, .sl 2 (l.map spV)), (3, .int .i64 0), (4, .int .i64 0)] [] = some (.ext 0, [(0, .sl 2 (l.map spV)), (3, .int .i64 0), (4, .int .i64 0), (12, .bool false)], []) := by
        rw [r_ref03_Size_0]
        simp [b_ref03_Size_0, hr, hb, hn]
      simp [runW_fin, F_ref03_Size, i_ref03_Size, hl0, spsV]
    · have : l = [] := List.length_eq_zero_iff.1 (by omega)
      subst this
      simp [spR] at hb
theorem eq_sp {cr : CallR} {d s t : Nat} {fr : Fr} {h : List Ob} {a b : Sp} : (eqvs [(0, 1, Q.int), (1, 1, Q.int)] [.int .i64 a.lo, .int .i64 a.hi] [.int .i64 b.lo, .int .i64 b.hi]) = some (decide (a = b)) := by
  obtain ⟨a1, a2⟩ := a
  obtain ⟨b1, b2⟩ := b
  simp only [eqvs_cons, qAgg, part_one, ob_some, List.getElem?_cons_zero, List.getElem?_cons_succ, eqr_int, if_true, eqvs_nil, Sp.mk.injEq]
  have e1 : (a1 == b1) = decide (a1 = b1) := by by_cases h : a1 = b1 <;> simp [h]
  have e2 : (a2 == b2) = decide (a2 = b2) := by by_cases h : a2 = b2 <;> simp [h]
  rw [e1, e2]
  by_cases h1 : a1 = b1 <;> by_cases h2 : a2 = b2 <;> simp [h1, h2]
theorem ref03_Same_loop (l m : List Sp) (hlm : l.length = m.length) (hl : l.length ≤ 4611686018427387904) : ∀ (d i : Nat), i + d = l.length →
    evw C y0 i_ref03_Same_l0 [(0, spsV l), (1, spsV m), (5, .int .i64 i)] [] =
      some (if l.drop i = m.drop i then (.ext 0, [(0, spsV l), (1, spsV m), (5, .int .i64 l.length), (14, .bool false)], []) else (.ret, [(4, .bool false)], [])) := by
  intro d
  induction d with
  | zero =>
    intro i hi
    have : i = l.length := by omega
    subst this
    rw [r_ref03_Same_0, List.drop_length, hlm, List.drop_length]
    simp [b_ref03_Same_0, spsV, hlm]
  | succ d ih =>
    intro i hi
    have hlt : i < l.length := by omega
    have hlt' : i < m.length := by omega
    have hw := wrap_succ hlt (by omega)
    have ih := ih (i + 1) (by omega)
    simp only [Int.natCast_add, Int.cast_ofNat_Int, spsV] at ih
    have he := @eq_sp (crw C y0) 0 0 0 [] [] l[i] m[i]
    rw [r_ref03_Same_0, List.drop_eq_getElem_cons hlt, List.drop_eq_getElem_cons hlt']
    by_cases hab : l[i] = m[i]
    · simp only [hab, List.cons.injEq, true_and, spsV, ← ih]
      simp only [hab, decide_true] at he
      simp [b_ref03_Same_0, spsV, spV, hlt, hlt', he, hw, hab]
    · simp only [hab, decide_false] at he
      simp only [List.cons.injEq, hab, false_and, if_false]
      simp [b_ref03_Same_0, spsV, spV, hlt, hlt', he]
theorem ref03_Same (l m : List Sp) (hl : l.length ≤ 4611686018427387904) (h : List Ob) : acw C n_ref03_Same [spsV l, spsV m] h = some (.ret (.bool (decide (l = m))), h) := by
  refine acw_pure (h' := []) (v := .bool (decide (l = m))) (CT T_ref03_Same) rfl rfl ?_ rfl (by simp)
  by_cases hlm : l.length = m.length
  · have hloop := ref03_Same_loop l m hlm hl l.length 0 (by omega)
    simp only [List.drop_zero, Int.cast_ofNat_Int] at hloop
    by_cases hb : l = m
    · simp only [hb, if_true, spsV] at hloop
      simp [runW_fin, F_ref03_Same, i_ref03_Same, hb, hloop, spsV]
    · simp only [hb, if_false, spsV] at hloop
      simp [runW_fin, F_ref03_Same, i_ref03_Same, hb, hloop, spsV, hlm]
  · have h2 : ¬ ((l.length : Int) = m.length) := by omega
    have h3 : ((l.length : Int) != m.length) = true := by simpa using h2
    have h4 : ¬ (l = m) := fun e => hlm (by rw [e])
    simp [runW_fin, F_ref03_Same, i_ref03_Same, h2, h3, h4, spsV]
end Go.RR.M
set_option linter.unusedVariables false
set_option linter.unusedSimpArgs false
set_option maxRecDepth 100000
set_option maxHeartbeats 4000000
namespace Go.RR
/-- a span behind others -/
def putS (l : List Sp) (s : Sp) : List Sp := match l.getLast? with
  | some t => if s.lo ≤ t.hi + 1 then l.dropLast ++ [⟨t.lo, max t.hi s.hi⟩] else l ++ [s]
  | none => [s]
theorem putS_nil (s : Sp) : putS [] s = [s] := rfl
theorem putS_end (pre : List Sp) (t s : Sp) : putS (pre ++ [t]) s = if s.lo ≤ t.hi + 1 then pre ++ [⟨t.lo, max t.hi s.hi⟩] else pre ++ [t] ++ [s] := by
  unfold putS
  rw [List.getLast?_append]
  simp
theorem max_ite (a b : Int) : (if a < b then b else a) = max a b := by omega
end Go.RR
namespace Go.RR.M
open Go Go.RR
theorem put_nil (s : Sp) (h : List Ob) : acw C n_spans_put [.nsl 2, spV s] h = some (.ret (.own (h.length + 1) 0 1 1), h ++ [.row 2 [spV s], .row 2 [spV s]]) := by
  rw [acw_hm (CT T_spans_put) rfl]
  have k4 : bsfL (.agg [.int .i64 0, .int .i64 0]) [spV s] = some (.sl 2 [spV s]) := rfl
  have k5 : ∀ h nid, appV nid h 2 16 (.nsl 2) (.sl 2 [spV s]) = some (.own nid 0 1 1, some (nid, .row 2 [spV s])) := fun h nid => appV_nsl rfl (by simp) rfl (by omega) (by omega)
  have k6 : wr (h ++ [.row 2 [spV s]]) (some (h.length + 1, .row 2 [spV s])) = h ++ [.row 2 [spV s], .row 2 [spV s]] := by
    simp [wr]
  simp only [spV] at k4 k5 k6 ⊢
  simp [runW_fin, F_spans_put, i_spans_put, k4, k5, k6]
theorem put_own (pre : List Sp) (t s : Sp) (id n : Nat) (h : List Ob) (hn : n = pre.length + 1) (hl : pre.length ≤ 1000000) (e : h[id]? = some (.row 2 (pre.map spV ++ [spV t]))) (ht : -1099511627776 ≤ t.hi ∧ t.hi ≤ 1099511627776) :
    ∃ m h', acw C n_spans_put [.own id 0 n n, spV s] h = some (.ret (.own id 0 m m), h') ∧ m = (putS (pre ++ [t]) s).length ∧ h'[id]? = some (.row 2 ((putS (pre ++ [t]) s).map spV)) := by
  rw [acw_hm (CT T_spans_put) rfl]
  have hid := (List.getElem?_eq_some_iff.1 e).1
  have e' : (h ++ [Ob.row 2 [spV s]])[id]? = some (.row 2 (pre.map spV ++ [spV t])) := get_some e
  have hw1 : IntKind.i64.wrap (pre.length : Int) = pre.length := wrap64 (by omega) (by omega)
  have hp2 : (pre.length : Int) < pre.length + 1 := by omega
  have hw2 : IntKind.i64.wrap (t.hi + 1) = t.hi + 1 := wrap64 (by omega) (by omega)
  have hp : (0 : Int) < pre.length + 1 := by omega
  have hg : (pre.map spV ++ [spV t])[pre.length]? = some (spV t) := by simp
  subst hn
  rw [putS_end]
  simp only [spV] at e' hg ⊢
  by_cases c : s.lo ≤ t.hi + 1
  · rw [if_pos c]
    refine ⟨pre.length + 1, (h ++ [Ob.row 2 [spV s]]).set id (.row 2 (pre.map spV ++ [spV ⟨t.lo, max t.hi s.hi⟩])), ?_, by simp, ?_⟩
    · have k6 := wr_lt (h := h ++ [Ob.row 2 [spV s]]) (i := id) (o := .row 2 (pre.map spV ++ [spV ⟨t.lo, max t.hi s.hi⟩])) (by simp; omega)
      simp only [spV] at k6
      simp [runW_fin, F_spans_put, i_spans_put, e', hg, hw1, hw2, hp, hp2, c, max_ite, k6]
    · rw [List.getElem?_set_self (by simp; omega)]
      simp
  · rw [if_neg c]
    have k4 : bsfL (.agg [.int .i64 0, .int .i64 0]) [spV s] = some (.sl 2 [spV s]) := rfl
    refine ⟨pre.length + 1 + 1, (h ++ [Ob.row 2 [spV s]]).set id (.row 2 (pre.map spV ++ [spV t, spV s])), ?_, by simp, ?_⟩
    · have k5 : ∀ nid, appV nid (h ++ [.row 2 [spV s]]) 2 16 (.own id 0 (pre.length + 1) (pre.length + 1)) (.sl 2 [spV s]) = some (.own id 0 (pre.length + 1 + 1) (pre.length + 1 + 1), some (id, .row 2 (pre.map spV ++ [spV t, spV s]))) := fun nid => (by have := appV_own (nid := nid) (b := 16) e' (m := pre.length + 1 + 1) (n := pre.length + 1) (by simp) (y := .sl 2 [spV s]) rfl (by simp) (by simp) (by omega) (by omega); simpa using this)
      have k6 := wr_lt (h := h ++ [Ob.row 2 [spV s]]) (i := id) (o := .row 2 (pre.map spV ++ [spV t, spV s])) (by simp; omega)
      simp only [spV] at k4 k5 k6
      simp [runW_fin, F_spans_put, i_spans_put, e', hg, hw1, hw2, hp, hp2, c, k4, k5, k6]
    · rw [List.getElem?_set_self (by simp; omega)]
      simp
/-- a list that grows by spans -/
def AccP (h : List Ob) (v : V) (l : List Sp) : Prop := (v = .nsl 2 ∧ l = []) ∨ ∃ id, l ≠ [] ∧ v = .own id 0 l.length l.length ∧ h[id]? = some (.row 2 (l.map spV))
theorem AccP.acc {h : List Ob} {v : V} {l : List Sp} (a : AccP h v l) : Acc h v 2 (l.map spV) := by
  rcases a with ⟨rfl, rfl⟩ | ⟨id, h1, rfl, e⟩
  · exact .inl ⟨rfl, rfl⟩
  · exact .inr ⟨id, by simp, e⟩
theorem AccP.frz {h : List Ob} {v : V} {l : List Sp} (a : AccP h v l) : frz h fdepth v = some (spsV l) :=
  a.acc.toB.frz 11 (mapO_id fun x hx => by obtain ⟨s, -, rfl⟩ := List.mem_map.1 hx; exact spV_fz s h 7)
theorem put (l : List Sp) (s : Sp) (v : V) (h : List Ob) (hl : l.length ≤ 1000000) (hb : ∀ t ∈ l, -1099511627776 ≤ t.hi ∧ t.hi ≤ 1099511627776) (a : AccP h v l) :
    ∃ v' h', acw C n_spans_put [v, spV s] h = some (.ret v', h') ∧ AccP h' v' (putS l s) := by
  rcases a with ⟨rfl, rfl⟩ | ⟨id, h1, rfl, e⟩
  · exact ⟨_, _, put_nil s h, .inr ⟨h.length + 1, by simp [putS_nil], by simp [putS_nil], by simp [putS_nil]⟩⟩
  · obtain ⟨pre, t, rfl⟩ : ∃ pre t, l = pre ++ [t] := ⟨l.dropLast, l.getLast h1, (List.dropLast_concat_getLast h1).symm⟩
    obtain ⟨m, h', k1, rfl, k3⟩ := put_own pre t s id (pre ++ [t]).length h (by simp) (by simp at hl; omega) (by simpa using e) (hb t (by simp))
    exact ⟨_, _, k1, .inr ⟨id, by rw [putS_end]; split <;> simp, rfl, k3⟩⟩
def okI (n : Int) : Bool := decide (-1048576 ≤ n) && decide (n ≤ 1048576)
def ofL : List Sp → List Int → Option (List Sp)
  | acc, [] => some acc
  | acc, v :: r => if okI v = true then ofL (putS acc ⟨v, v⟩) r else none
theorem putS_hi {l : List Sp} {s : Sp} {b : Int} (h : ∀ t ∈ l, -b ≤ t.hi ∧ t.hi ≤ b) (hs : -b ≤ s.hi ∧ s.hi ≤ b) : ∀ t ∈ putS l s, -b ≤ t.hi ∧ t.hi ≤ b := by
  by_cases e : l = []
  · subst e
    simp [putS_nil, hs]
  · obtain ⟨pre, t, rfl⟩ : ∃ pre t, l = pre ++ [t] := ⟨l.dropLast, l.getLast e, (List.dropLast_concat_getLast e).symm⟩
    have ht := h t (by simp)
    rw [putS_end]
    intro x hx
    split at hx
    · rcases List.mem_append.1 hx with hx | hx
      · exact h x (by simp [hx])
      · simp only [List.mem_singleton] at hx
        subst hx
        simp only
        omega
    · rcases List.mem_append.1 hx with hx | hx
      · exact h x hx
      · simp only [List.mem_singleton] at hx
        subst hx
        exact hs
theorem putS_len (l : List Sp) (s : Sp) : (putS l s).length ≤ l.length + 1 := by
  by_cases e : l = []
  · subst e
    simp [putS_nil]
  · obtain ⟨pre, t, rfl⟩ : ∃ pre t, l = pre ++ [t] := ⟨l.dropLast, l.getLast e, (List.dropLast_concat_getLast e).symm⟩
    rw [putS_end]
    split <;> simp
theorem of_loop (l : List Int) (hl : l.length ≤ 1000000) : ∀ (d i : Nat) (acc : List Sp) (v : V) (h : List Ob), i + d = l.length → acc.length ≤ i → (∀ t ∈ acc, -1048576 ≤ t.hi ∧ t.hi ≤ 1048576) → AccP h v acc →
    ∃ h', match ofL acc (l.drop i) with
      | some r => ∃ v', evw C y0 i_spans_Of_l0 [(4, v), (9, intsV l), (10, iv l.length), (11, iv i)] h = some (.ext 0, [(4, v'), (9, intsV l), (10, iv l.length), (11, iv l.length), (12, .bool false)], h') ∧ AccP h' v' r
      | none => evw C y0 i_spans_Of_l0 [(4, v), (9, intsV l), (10, iv l.length), (11, iv i)] h = some (.ret, [(2, .nsl 2), (3, iv 1)], h')
  | 0, i, acc, v, h, e, ha, hb, hA => by
    obtain rfl : i = l.length := by omega
    refine ⟨h, ?_⟩
    rw [List.drop_length]
    refine ⟨v, ?_, hA⟩
    rw [r_spans_Of_0]
    simp [b_spans_Of_0]
  | d + 1, i, acc, v, h, e, ha, hb, hA => by
    have hlt : i < l.length := by omega
    have h2 : (i : Int) < l.length := by omega
    have h3 : l[i]? = some l[i] := by simp [hlt]
    have hw := wrap_succ (i := i) (n := l.length) hlt (by omega)
    rw [List.drop_eq_getElem_cons hlt]
    by_cases c1 : l[i] < -1048576
    · have c : okI l[i] = false := by simp [okI]; omega
      simp only [ofL, c, Bool.false_eq_true, if_false]
      refine ⟨h, ?_⟩
      rw [r_spans_Of_0]
      simp [b_spans_Of_0, h2, h3, c1]
    by_cases c2 : 1048576 < l[i]
    · have c : okI l[i] = false := by simp [okI]; omega
      simp only [ofL, c, Bool.false_eq_true, if_false]
      refine ⟨h, ?_⟩
      rw [r_spans_Of_0]
      simp [b_spans_Of_0, h2, h3, c1, c2]
    have c : okI l[i] = true := by simp [okI]; omega
    simp only [ofL, c, if_true]
    obtain ⟨v', h1, k1, k2⟩ := put acc ⟨l[i], l[i]⟩ v h (by omega) (fun t ht => by have := hb t ht; omega) hA
    obtain ⟨h', ih⟩ := of_loop l hl d (i + 1) (putS acc ⟨l[i], l[i]⟩) v' h1 (by omega) (by have := putS_len acc ⟨l[i], l[i]⟩; omega) (putS_hi hb (by simp; omega)) k2
    refine ⟨h', ?_⟩
    simp only [Int.natCast_add, Int.cast_ofNat_Int] at ih
    simp only [spV] at k1
    cases hr : ofL (putS acc ⟨l[i], l[i]⟩) (l.drop (i + 1)) with
    | some r =>
      rw [hr] at ih
      obtain ⟨v2, ih, a2⟩ := ih
      refine ⟨v2, ?_, a2⟩
      rw [r_spans_Of_0, ← ih]
      simp [b_spans_Of_0, h2, h3, c1, c2, k1, hw]
    | none =>
      rw [hr] at ih
      simp only at ih ⊢
      rw [r_spans_Of_0, ← ih]
      simp [b_spans_Of_0, h2, h3, c1, c2, k1, hw]
/-- the spans of numbers, or why there are none -/
def ofR (l : List Int) : List Sp × Int := match ofL [] (sortI l) with
  | some r => (r, 0)
  | none => ([], 1)
theorem spans_Of (l : List Int) (hl : l.length ≤ 1000000) (h : List Ob) : acw C n_spans_Of [intsV l] h = some (.ret (.tup [spsV (ofR l).1, iv (ofR l).2]), h) := by
  have hs := sortI_length l
  obtain ⟨h', ih⟩ := of_loop (sortI l) (by omega) l.length 0 [] (.nsl 2) [] (by omega) (Nat.le_refl _) (by simp) (.inl ⟨rfl, rfl⟩)
  have k1 := values l
  have k2 := sorted l (by omega)
  simp only [List.drop_zero, Int.cast_ofNat_Int] at ih
  unfold ofR
  cases hr : ofL [] (sortI l) with
  | some r =>
    rw [hr] at ih
    obtain ⟨v', ih, a2⟩ := ih
    refine acw_pure (a2 := [intsV l]) (h' := h') (v := .tup [v', iv 0]) (CT T_spans_Of) rfl rfl ?_ ?_ (by simp)
    · simp [runW_fin, F_spans_Of, i_spans_Of, k1, k2, ih]
    · show (mapO (RR.frz h' 11) [v', iv 0]).map V.tup = _
      have := a2.acc.toB.frz 10 (mapO_id fun x hx => by obtain ⟨s, -, rfl⟩ := List.mem_map.1 hx; exact spV_fz s h' 6)
      simp only [mapO, this, show ∀ n : Int, RR.frz h' 11 (iv n) = some (iv n) from fun _ => rfl, Option.map_some]
  | none =>
    rw [hr] at ih
    simp only at ih
    refine acw_pure (a2 := [intsV l]) (h' := h') (v := .tup [.nsl 2, iv 1]) (CT T_spans_Of) rfl rfl ?_ rfl (by simp)
    simp [runW_fin, F_spans_Of, i_spans_Of, k1, k2, ih]
end Go.RR.M
set_option linter.unusedVariables false
set_option linter.unusedSimpArgs false
set_option maxRecDepth 100000
set_option maxHeartbeats 4000000
namespace Go.RR.M
open Go Go.RR
def bst (low : Int) (b : Int) (l : List Int) : Int := l.foldl (fun b v => if low < v ∧ v < b then v else b) b
theorem bst_cons (low b v : Int) (l : List Int) : bst low b (v :: l) = bst low (if low < v ∧ v < b then v else b) l := rfl
theorem bst_spec (low : Int) : ∀ (l : List Int) (b : Int), bst low b l ≤ b ∧ (∀ v ∈ l, low < v → bst low b l ≤ v) ∧ (bst low b l = b ∨ bst low b l ∈ l ∧ low < bst low b l)
  | [], b => ⟨Int.le_refl _, by simp, .inl rfl⟩
  | v :: l, b => by
    rw [bst_cons]
    by_cases c : low < v ∧ v < b
    · rw [if_pos c]
      obtain ⟨h1, h2, h3⟩ := bst_spec low l v
      refine ⟨by omega, fun w hw hl => ?_, ?_⟩
      · rcases List.mem_cons.1 hw with rfl | hw
        · exact h1
        · exact h2 w hw hl
      · rcases h3 with h3 | h3
        · exact .inr ⟨by rw [h3]; simp, by rw [h3]; exact c.1⟩
        · exact .inr ⟨List.mem_cons_of_mem _ h3.1, h3.2⟩
    · rw [if_neg c]
      obtain ⟨h1, h2, h3⟩ := bst_spec low l b
      refine ⟨h1, fun w hw hl => ?_, ?_⟩
      · rcases List.mem_cons.1 hw with rfl | hw
        · omega
        · exact h2 w hw hl
      · rcases h3 with h3 | h3
        · exact .inl h3
        · exact .inr ⟨List.mem_cons_of_mem _ h3.1, h3.2⟩
def outR (out : List Sp) (b : Int) : List Sp := match out.getLast? with
  | some t => if t.hi + 1 = b then out.dropLast ++ [⟨t.lo, b⟩] else out ++ [⟨b, b⟩]
  | none => [⟨b, b⟩]
theorem outR_nil (b : Int) : outR [] b = [⟨b, b⟩] := rfl
theorem outR_end (pre : List Sp) (t : Sp) (b : Int) : outR (pre ++ [t]) b = if t.hi + 1 = b then pre ++ [⟨t.lo, b⟩] else pre ++ [t] ++ [⟨b, b⟩] := by
  unfold outR
  rw [List.getLast?_append]
  simp
theorem filter_gt_lt (x low : Int) (h : low < x) (s : List Int) : (s.filter fun v => decide (low < v)).filter (fun v => decide (x < v)) = s.filter fun v => decide (x < v) := by
  rw [List.filter_filter]
  congr 1
  funext v
  by_cases c : x < v
  · simp [c]; omega
  · simp [c]
def refS : Nat → List Int → List Sp → List Sp
  | 0, _, out => out
  | _ + 1, [], out => out
  | n + 1, x :: r, out => refS n (r.filter fun v => decide (x < v)) (outR out x)
theorem putS_outR {out : List Sp} {x : Int} (h : ∀ t ∈ out, t.hi < x) : putS out ⟨x, x⟩ = outR out x := by
  by_cases e : out = []
  · subst e; rfl
  · obtain ⟨pre, t, rfl⟩ : ∃ pre t, out = pre ++ [t] := ⟨out.dropLast, out.getLast e, (List.dropLast_concat_getLast e).symm⟩
    have := h t (by simp)
    rw [putS_end, outR_end]
    by_cases c : t.hi + 1 = x
    · rw [if_pos c, if_pos (by first | omega | (simp only; omega))]
      simp only [show max t.hi x = x by omega]
    · rw [if_neg c, if_neg (by first | omega | (simp only; omega))]
theorem outR_hi {out : List Sp} {x b : Int} (h : ∀ t ∈ out, t.hi < x) (hb : x < b) : ∀ t ∈ outR out x, t.hi < b := by
  by_cases e : out = []
  · subst e; simp [outR_nil, hb]
  · obtain ⟨pre, t, rfl⟩ : ∃ pre t, out = pre ++ [t] := ⟨out.dropLast, out.getLast e, (List.dropLast_concat_getLast e).symm⟩
    rw [outR_end]
    intro y hy
    split at hy
    · rcases List.mem_append.1 hy with hy | hy
      · have := h y (by simp [hy]); omega
      · simp only [List.mem_singleton] at hy; subst hy; exact hb
    · rcases List.mem_append.1 hy with hy | hy
      · have := h y hy; omega
      · simp only [List.mem_singleton] at hy; subst hy; exact hb
theorem putS_same {out : List Sp} {x : Int} (h : ∀ t ∈ out, t.hi < x) : putS (outR out x) ⟨x, x⟩ = outR out x := by
  by_cases e : out = []
  · subst e
    have := putS_end [] ⟨x, x⟩ ⟨x, x⟩
    simp only [List.nil_append] at this
    rw [outR_nil, this, if_pos (by first | omega | (simp only; omega))]
    simp only [Int.max_def, Int.le_refl, if_true]
  · obtain ⟨pre, t, rfl⟩ : ∃ pre t, out = pre ++ [t] := ⟨out.dropLast, out.getLast e, (List.dropLast_concat_getLast e).symm⟩
    rw [outR_end]
    split
    · rw [putS_end, if_pos (by first | omega | (simp only; omega))]
      simp
    · rw [putS_end, if_pos (by first | omega | (simp only; omega))]
      simp
theorem sorted_cons {x : Int} {r : List Int} (h : (x :: r).Pairwise (· ≤ ·)) : r.Pairwise (· ≤ ·) ∧ ∀ v ∈ r, x ≤ v := ⟨(List.pairwise_cons.1 h).2, (List.pairwise_cons.1 h).1⟩
theorem ofL_dup {out : List Sp} {x : Int} (h : ∀ t ∈ out, t.hi < x) (hx : okI x = true) : ∀ (r : List Int), r.Pairwise (· ≤ ·) → (∀ v ∈ r, x ≤ v) → ofL (outR out x) r = ofL (outR out x) (r.filter fun v => decide (x < v))
  | [], _, _ => rfl
  | v :: r, hs, hv => by
    have h1 := sorted_cons hs
    by_cases c : x < v
    · have : (v :: r).filter (fun w => decide (x < w)) = v :: r := List.filter_eq_self.2 fun w hw => by
        rcases List.mem_cons.1 hw with rfl | hw
        · simp [c]
        · have := h1.2 w hw; simp; omega
      rw [this]
    · have hvx : v = x := by have := hv v (by simp); omega
      subst hvx
      rw [List.filter_cons_of_neg (by simp)]
      simp only [ofL, hx, if_true]
      rw [putS_same h]
      exact ofL_dup h hx r h1.1 h1.2
theorem ofL_refS : ∀ (n : Nat) (s : List Int) (out : List Sp), s.length ≤ n → s.Pairwise (· ≤ ·) → (∀ v ∈ s, okI v = true) → (∀ t ∈ out, ∀ v ∈ s, t.hi < v) → ofL out s = some (refS n s out)
  | 0, s, out, hl, _, _, _ => by
    have : s = [] := List.length_eq_zero_iff.1 (by omega)
    subst this; rfl
  | n + 1, [], out, _, _, _, _ => rfl
  | n + 1, x :: r, out, hl, hs, ho, hb => by
    have h1 := sorted_cons hs
    have hx := ho x (by simp)
    have hbx : ∀ t ∈ out, t.hi < x := fun t ht => hb t ht x (by simp)
    simp only [ofL, hx, if_true, refS]
    rw [putS_outR hbx, ofL_dup hbx hx r h1.1 h1.2]
    refine ofL_refS n _ _ ?_ (h1.1.filter _) (fun v hv => ho v (by simp [(List.mem_filter.1 hv).1])) fun t ht v hv => ?_
    · have := List.length_filter_le (fun v => decide (x < v)) r
      simp at hl; omega
    · exact outR_hi hbx (by simpa using (List.mem_filter.1 hv).2) t ht
theorem ofL_none : ∀ (s : List Int) (out : List Sp), (∃ v ∈ s, okI v = false) → ofL out s = none
  | [], _, h => by obtain ⟨v, hv, _⟩ := h; simp at hv
  | x :: r, out, h => by
    simp only [ofL]
    cases hx : okI x with
    | false => rfl
    | true =>
      simp only [if_true]
      obtain ⟨v, hv, h1⟩ := h
      rcases List.mem_cons.1 hv with rfl | hv
      · rw [hx] at h1; cases h1
      · exact ofL_none r _ ⟨v, hv, h1⟩
/-- the least that is more -/
theorem bst_sorted {l : List Int} {low : Int} (ho : ∀ v ∈ l, okI v = true) : bst low 2000000 l = match (sortI l).filter fun v => decide (low < v) with
    | [] => 2000000
    | x :: _ => x := by
  obtain ⟨h1, h2, h3⟩ := bst_spec low l 2000000
  have hm : ∀ v, v ∈ sortI l ↔ v ∈ l := fun v => (sortI_perm l).mem_iff
  have hs : ((sortI l).filter fun v => decide (low < v)).Pairwise (· ≤ ·) := (sortI_sorted l).filter _
  have hmem : ∀ v, v ∈ (sortI l).filter (fun v => decide (low < v)) ↔ v ∈ l ∧ low < v := fun v => by rw [List.mem_filter, hm]; simp
  cases e : (sortI l).filter fun v => decide (low < v) with
  | nil =>
    rcases h3 with h3 | h3
    · exact h3
    · have := (hmem _).2 h3
      rw [e] at this
      simp at this
  | cons x r =>
    simp only
    rw [e] at hs
    have hx := (hmem x).1 (by rw [e]; simp)
    have hox := ho x hx.1
    simp only [okI, Bool.and_eq_true, decide_eq_true_eq] at hox
    have h4 := h2 x hx.1 hx.2
    rcases h3 with h3 | h3
    · omega
    · have := (hmem _).2 h3
      rw [e] at this
      rcases List.mem_cons.1 this with h5 | h5
      · exact h5
      · have := (sorted_cons hs).2 _ h5
        omega
end Go.RR.M
set_option linter.unusedVariables false
set_option linter.unusedSimpArgs false
set_option maxRecDepth 100000
set_option maxHeartbeats 4000000
namespace Go.RR.M
open Go Go.RR
theorem rof_l0 (l : List Int) (hl : l.length ≤ 1000000) (v : V) (h : List Ob) : ∀ (d i : Nat), i + d = l.length →
    evw C y0 i_ref03_Of_l0 [(0, intsV l), (4, v), (5, iv (-2000000)), (6, iv i)] h =
      some (if (l.drop i).all okI = true then (.ext 0, [(0, intsV l), (4, v), (5, iv (-2000000)), (6, iv l.length), (14, .bool false)], h) else (.ret, [(2, .nsl 2), (3, iv 1)], h))
  | 0, i, e => by
    obtain rfl : i = l.length := by omega
    rw [List.drop_length, r_ref03_Of_0]
    simp [b_ref03_Of_0]
  | d + 1, i, e => by
    have hlt : i < l.length := by omega
    have h2 : (i : Int) < l.length := by omega
    have h3 : l[i]? = some l[i] := by simp [hlt]
    have hw := wrap_succ (i := i) (n := l.length) hlt (by omega)
    have ih := rof_l0 l hl v h d (i + 1) (by omega)
    simp only [Int.natCast_add, Int.cast_ofNat_Int] at ih
    rw [List.drop_eq_getElem_cons hlt, r_ref03_Of_0, List.all_cons]
    by_cases c1 : l[i] < -1048576
    · have c : okI l[i] = false := by simp [okI]; omega
      simp [b_ref03_Of_0, h2, h3, c1, c]
    by_cases c2 : 1048576 < l[i]
    · have c : okI l[i] = false := by simp [okI]; omega
      simp [b_ref03_Of_0, h2, h3, c1, c2, c]
    have c : okI l[i] = true := by simp [okI]; omega
    rw [c, Bool.true_and, ← ih]
    simp [b_ref03_Of_0, h2, h3, c1, c2, hw]
theorem rof_l1 (l : List Int) (hl : l.length ≤ 1000000) (low : Int) (v : V) (h : List Ob) : ∀ (d i : Nat) (b : Int), i + d = l.length →
    evw C y0 i_ref03_Of_l1 [(0, intsV l), (4, v), (5, iv low), (8, iv b), (9, iv i)] h =
      some (.ext 4, [(0, intsV l), (4, v), (5, iv low), (8, iv (bst low b (l.drop i))), (9, iv l.length), (33, .bool false)], h)
  | 0, i, b, e => by
    obtain rfl : i = l.length := by omega
    rw [List.drop_length, r_ref03_Of_1]
    simp [b_ref03_Of_1, bst]
  | d + 1, i, b, e => by
    have hlt : i < l.length := by omega
    have h2 : (i : Int) < l.length := by omega
    have h3 : l[i]? = some l[i] := by simp [hlt]
    have hw := wrap_succ (i := i) (n := l.length) hlt (by omega)
    rw [List.drop_eq_getElem_cons hlt, r_ref03_Of_1, bst_cons]
    by_cases c1 : low < l[i]
    · by_cases c2 : l[i] < b
      · have ih := rof_l1 l hl low v h d (i + 1) l[i] (by omega)
        simp only [Int.natCast_add, Int.cast_ofNat_Int] at ih
        rw [if_pos ⟨c1, c2⟩, ← ih]
        simp [b_ref03_Of_1, h2, h3, c1, c2, hw]
      · have ih := rof_l1 l hl low v h d (i + 1) b (by omega)
        simp only [Int.natCast_add, Int.cast_ofNat_Int] at ih
        rw [if_neg (fun c => c2 c.2), ← ih]
        simp [b_ref03_Of_1, h2, h3, c1, c2, hw]
    · have ih := rof_l1 l hl low v h d (i + 1) b (by omega)
      simp only [Int.natCast_add, Int.cast_ofNat_Int] at ih
      rw [if_neg (fun c => c1 c.1), ← ih]
      simp [b_ref03_Of_1, h2, h3, c1, hw]
/-- one more number: its list -/
theorem rof_step (l : List Int) (hl : l.length ≤ 1000000) (low b : Int) (out : List Sp) (ho : out.length ≤ 1000000) (hb : bst low 2000000 l = b) (hb2 : b < 2000000) (hr : ∀ t ∈ out, -1048576 ≤ t.hi ∧ t.hi ≤ 1048576) :
    evw C y0 i_ref03_Of_l2 [(0, intsV l), (4, .own 0 0 out.length out.length), (5, iv low), (7, .bool true)] [.row 2 (out.map spV)] =
      evw C y0 i_ref03_Of_l2 [(0, intsV l), (4, .own 0 0 (outR out b).length (outR out b).length), (5, iv b), (7, .bool true)] [.row 2 ((outR out b).map spV)] := by
  have h1 := rof_l1 l hl low (.own 0 0 out.length out.length) [.row 2 (out.map spV)] l.length 0 2000000 (by omega)
  rw [List.drop_zero, hb] at h1
  simp only [Int.cast_ofNat_Int] at h1
  have k4 : bsfL (.agg [.int .i64 0, .int .i64 0]) [spV ⟨b, b⟩] = some (.sl 2 [spV ⟨b, b⟩]) := rfl
  rw [r_ref03_Of_2]
  by_cases e : out = []
  · subst e
    have k5 : ∀ nid, appV nid [.row 2 []] 2 16 (.own 0 0 0 0) (.sl 2 [spV ⟨b, b⟩]) = some (.own 0 0 1 1, some (0, .row 2 [spV ⟨b, b⟩])) := fun nid => appV_own (xs := []) rfl rfl rfl (by simp) (by simp) (by omega) (by omega)
    simp only [spV, List.length_nil, List.map_nil] at k4 k5 h1
    simp [b_ref03_Of_2, h1, hb2, k4, k5, outR_nil]
  · obtain ⟨pre, t, rfl⟩ : ∃ pre t, out = pre ++ [t] := ⟨out.dropLast, out.getLast e, (List.dropLast_concat_getLast e).symm⟩
    have ht := hr t (by simp)
    have hpl : pre.length < 1000000 := by simp at ho; omega
    have hw1 : IntKind.i64.wrap (pre.length : Int) = pre.length := wrap64 (by omega) (by omega)
    have hw2 : IntKind.i64.wrap (t.hi + 1) = t.hi + 1 := wrap64 (by omega) (by omega)
    have hp : (0 : Int) < pre.length + 1 := by omega
    have hp2 : (pre.length : Int) < pre.length + 1 := by omega
    have hg : (pre.map spV ++ [spV t])[pre.length]? = some (spV t) := by simp
    rw [outR_end]
    simp only [spV, List.length_append, List.length_cons, List.length_nil, Nat.zero_add, List.map_append, List.map_cons, List.map_nil] at h1 hg k4
    by_cases c : t.hi + 1 = b
    · rw [if_pos c]
      subst c
      simp [b_ref03_Of_2, h1, hb2, hp, hp2, hw1, hw2, hg, ieq, ine]
    · rw [if_neg c]
      have k5 : ∀ nid, appV nid [.row 2 (pre.map spV ++ [.agg [.int .i64 t.lo, .int .i64 t.hi]])] 2 16 (.own 0 0 (pre.length + 1) (pre.length + 1)) (.sl 2 [.agg [.int .i64 b, .int .i64 b]]) = some (.own 0 0 (pre.length + 1 + 1) (pre.length + 1 + 1), some (0, .row 2 (pre.map spV ++ [.agg [.int .i64 t.lo, .int .i64 t.hi], .agg [.int .i64 b, .int .i64 b]]))) := fun nid => by
        have := appV_own (nid := nid) (h := [.row 2 (pre.map spV ++ [.agg [.int .i64 t.lo, .int .i64 t.hi]])]) (id := 0) (z := 2) (b := 16) (n := pre.length + 1) (m := pre.length + 1 + 1) (y := .sl 2 [.agg [.int .i64 b, .int .i64 b]]) rfl (by simp) rfl (by simp) (by simp) (by omega) (by omega)
        simpa using this
      simp [b_ref03_Of_2, h1, hb2, hp, hp2, hw1, hw2, hg, ieq, ine, c, k4, k5]
theorem rof_end (l : List Int) (hl : l.length ≤ 1000000) (low : Int) (out : List Sp) (ho : out.length ≤ 1000000) (hb : bst low 2000000 l = 2000000) :
    evw C y0 i_ref03_Of_l2 [(0, intsV l), (4, .own 0 0 out.length out.length), (5, iv low), (7, .bool true)] [.row 2 (out.map spV)] =
      some (.ext 2, [(0, intsV l), (4, .own 0 0 out.length out.length), (5, iv 2000000), (29, .bool false)], [.row 2 (out.map spV)]) := by
  have h1 := rof_l1 l hl low (.own 0 0 out.length out.length) [.row 2 (out.map spV)] l.length 0 2000000 (by omega)
  rw [List.drop_zero, hb] at h1
  simp only [Int.cast_ofNat_Int] at h1
  have h2 : evw C y0 i_ref03_Of_l2 [(0, intsV l), (4, .own 0 0 out.length out.length), (5, iv 2000000), (7, .bool false)] [.row 2 (out.map spV)] = some (.ext 2, [(0, intsV l), (4, .own 0 0 out.length out.length), (5, iv 2000000), (29, .bool false)], [.row 2 (out.map spV)]) := by
    rw [r_ref03_Of_2]
    simp [b_ref03_Of_2]
  rw [r_ref03_Of_2]
  simp [b_ref03_Of_2, h1]
  exact h2
theorem outR_len (out : List Sp) (b : Int) : (outR out b).length ≤ out.length + 1 := by
  by_cases e : out = []
  · subst e
    simp [outR_nil]
  · obtain ⟨pre, t, rfl⟩ : ∃ pre t, out = pre ++ [t] := ⟨out.dropLast, out.getLast e, (List.dropLast_concat_getLast e).symm⟩
    rw [outR_end]
    split <;> simp
theorem outR_bd {out : List Sp} {x : Int} (h : ∀ t ∈ out, -1048576 ≤ t.hi ∧ t.hi ≤ 1048576) (hx : -1048576 ≤ x ∧ x ≤ 1048576) : ∀ t ∈ outR out x, -1048576 ≤ t.hi ∧ t.hi ≤ 1048576 := by
  by_cases e : out = []
  · subst e; simp [outR_nil, hx]
  · obtain ⟨pre, t, rfl⟩ : ∃ pre t, out = pre ++ [t] := ⟨out.dropLast, out.getLast e, (List.dropLast_concat_getLast e).symm⟩
    rw [outR_end]
    intro y hy
    split at hy
    · rcases List.mem_append.1 hy with hy | hy
      · exact h y (by simp [hy])
      · simp only [List.mem_singleton] at hy; subst hy; exact hx
    · rcases List.mem_append.1 hy with hy | hy
      · exact h y hy
      · simp only [List.mem_singleton] at hy; subst hy; exact hx
theorem rof_l2 (l : List Int) (hl : l.length ≤ 1000000) (hok : ∀ v ∈ l, okI v = true) : ∀ (n : Nat) (low : Int) (out : List Sp) (r : List Int), ((sortI l).filter fun v => decide (low < v)) = r → r.length ≤ n → out.length + n ≤ 1000000 → (∀ t ∈ out, -1048576 ≤ t.hi ∧ t.hi ≤ 1048576) →
    evw C y0 i_ref03_Of_l2 [(0, intsV l), (4, .own 0 0 out.length out.length), (5, iv low), (7, .bool true)] [.row 2 (out.map spV)] =
      some (.ext 2, [(0, intsV l), (4, .own 0 0 (refS n r out).length (refS n r out).length), (5, iv 2000000), (29, .bool false)], [.row 2 ((refS n r out).map spV)])
  | 0, low, out, r, hr, hn, ho, hb => by
    have : r = [] := List.length_eq_zero_iff.1 (by omega)
    subst this
    have h1 := bst_sorted (low := low) hok
    rw [hr] at h1
    exact rof_end l hl low out (by omega) h1
  | n + 1, low, out, [], hr, hn, ho, hb => by
    have h1 := bst_sorted (low := low) hok
    rw [hr] at h1
    exact rof_end l hl low out (by omega) h1
  | n + 1, low, out, x :: r, hr, hn, ho, hb => by
    have h1 := bst_sorted (low := low) hok
    rw [hr] at h1
    simp only at h1
    have hx : x ∈ l ∧ low < x := by
      have : x ∈ (sortI l).filter fun v => decide (low < v) := by rw [hr]; simp
      rw [List.mem_filter, (sortI_perm l).mem_iff] at this
      simpa using this
    have hox := hok x hx.1
    simp only [okI, Bool.and_eq_true, decide_eq_true_eq] at hox
    rw [rof_step l hl low x out (by omega) h1 (by omega) hb]
    have hr2 : ((sortI l).filter fun v => decide (x < v)) = r.filter fun v => decide (x < v) := by
      rw [← filter_gt_lt x low hx.2, hr, List.filter_cons_of_neg (by simp)]
    have := List.length_filter_le (fun v => decide (x < v)) r
    have h2 := outR_len out x
    exact rof_l2 l hl hok n x (outR out x) _ hr2 (by simp at hn; omega) (by omega) (outR_bd hb hox)
theorem ref03_Of (l : List Int) (hl : l.length ≤ 500000) (h : List Ob) : acw C n_ref03_Of [intsV l] h = some (.ret (.tup [spsV (ofR l).1, iv (ofR l).2]), h) := by
  have h0 := rof_l0 l (by omega) (.own 0 0 0 0) [.row 2 []] l.length 0 (by omega)
  rw [List.drop_zero] at h0
  simp only [Int.cast_ofNat_Int] at h0
  cases c : l.all okI with
  | false =>
    rw [c] at h0
    simp only [Bool.false_eq_true, if_false] at h0
    have e : ofR l = ([], 1) := by
      unfold ofR
      rw [ofL_none (sortI l) [] (by
        obtain ⟨v, hv, h1⟩ := List.all_eq_false.1 c
        exact ⟨v, (sortI_perm l).mem_iff.2 hv, by simpa using h1⟩)]
    rw [e]
    refine acw_pure (a2 := [intsV l]) (h' := [.row 2 []]) (v := .tup [.nsl 2, iv 1]) (CT T_ref03_Of) rfl rfl ?_ rfl (by simp)
    simp [runW_fin, F_ref03_Of, i_ref03_Of, h0]
  | true =>
    rw [c] at h0
    simp only [if_true] at h0
    have hok : ∀ v ∈ l, okI v = true := List.all_eq_true.1 c
    have hoks : ∀ v ∈ sortI l, okI v = true := fun v hv => hok v ((sortI_perm l).mem_iff.1 hv)
    have hf : ((sortI l).filter fun v => decide ((-2000000 : Int) < v)) = sortI l := List.filter_eq_self.2 fun v hv => by
      have := hoks v hv
      simp only [okI, Bool.and_eq_true, decide_eq_true_eq] at this
      simp; omega
    have hs := sortI_length l
    have e : ofR l = (refS l.length (sortI l) [], 0) := by
      unfold ofR
      rw [ofL_refS l.length (sortI l) [] (by omega) (sortI_sorted l) hoks (by simp)]
    rw [e]
    have h2 := rof_l2 l (by omega) hok l.length (-2000000) [] (sortI l) hf (by omega) (by simp; omega) (by simp)
    obtain ⟨R, hR⟩ : ∃ R, R = refS l.length (sortI l) [] := ⟨_, rfl⟩
    rw [← hR] at h2 ⊢
    simp only [List.length_nil, List.map_nil] at h2
    refine acw_pure (a2 := [intsV l]) (h' := [.row 2 (R.map spV)]) (v := .tup [.own 0 0 R.length R.length, iv 0]) (CT T_ref03_Of) rfl rfl ?_ ?_ (by simp)
    · simp [runW_fin, F_ref03_Of, i_ref03_Of, h0, h2]
    · show (mapO (RR.frz _ 11) [.own 0 0 R.length R.length, iv 0]).map V.tup = _
      have a : AccB 0 [Ob.row 2 (R.map spV)] (.own 0 0 R.length R.length) 2 (R.map spV) := .own (Nat.zero_le _) (by simp) rfl
      have := a.frz 10 (mapO_id fun x hx => by obtain ⟨s, -, rfl⟩ := List.mem_map.1 hx; exact spV_fz s _ 6)
      simp only [mapO, this, show ∀ n : Int, RR.frz [Ob.row 2 (R.map spV)] 11 (iv n) = some (iv n) from fun _ => rfl, Option.map_some]
end Go.RR.M
set_option linter.unusedVariables false
set_option linter.unusedSimpArgs false
set_option maxRecDepth 100000
namespace Go.RR.M
open Go Go.RR
def plS (v : Int) : List Sp → Int → Int
  | [], _ => -1
  | s :: r, n => if v < s.lo then -1 else if v ≤ s.hi then n + v - s.lo else plS v r (n + (s.hi - s.lo + 1))
def atS : List Sp → Int → Int × Bool
  | [], _ => (0, false)
  | s :: r, k => if k < s.hi - s.lo + 1 then (s.lo + k, true) else atS r (k - (s.hi - s.lo + 1))
def inS (v : Int) (l : List Sp) : Bool := l.any fun s => decide (s.lo ≤ v) && decide (v ≤ s.hi)
def plR (v : Int) : List Sp → Int → Int
  | [], n => n
  | s :: r, n => plR v r (if s.hi < v then n + s.hi + 1 - s.lo else if s.lo ≤ v then n + v - s.lo else n)
/-- numbers, one behind another -/
def rng : Int → Nat → List Int
  | _, 0 => []
  | v, n + 1 => v :: rng (v + 1) n
theorem rng_len : ∀ (n : Nat) (v : Int), (rng v n).length = n
  | 0, _ => rfl
  | n + 1, v => by simp [rng, rng_len n]
theorem rng_get : ∀ (n : Nat) (v : Int) (k : Nat) (h : k < (rng v n).length), (rng v n)[k] = v + k
  | 0, v, k, h => by simp [rng] at h
  | n + 1, v, 0, h => by simp [rng]
  | n + 1, v, k + 1, h => by
    simp only [rng, List.getElem_cons_succ]
    rw [rng_get n (v + 1) k]
    omega
theorem mem_rng : ∀ {n : Nat} {v x : Int}, x ∈ rng v n ↔ v ≤ x ∧ x < v + n
  | 0, v, x => by simp [rng] <;> omega
  | n + 1, v, x => by
    rw [rng, List.mem_cons, mem_rng]
    omega
def valS (l : List Sp) : List Int := l.flatMap fun s => rng s.lo (s.hi - s.lo + 1).toNat
theorem valS_cons (s : Sp) (r : List Sp) : valS (s :: r) = rng s.lo (s.hi - s.lo + 1).toNat ++ valS r := rfl
theorem spR_cons {p : Option Int} {s : Sp} {r : List Sp} (h : spR p (s :: r) = true) : s.lo ≤ s.hi ∧ -1048576 ≤ s.lo ∧ s.hi ≤ 1048576 ∧ (∀ q, p = some q → q + 1 < s.lo) ∧ spR (some s.hi) r = true := by
  cases p with
  | none => simp [spR] at h; exact ⟨h.1.1.1, h.1.1.2, h.1.2, by simp, h.2⟩
  | some q => simp [spR] at h; exact ⟨h.1.1.1.1, h.1.1.1.2, h.1.1.2, fun x e => by cases e; exact h.1.2, h.2⟩
theorem spR_lo {q : Int} : ∀ {l : List Sp}, spR (some q) l = true → ∀ s ∈ l, q + 1 < s.lo ∧ s.lo ≤ s.hi
  | [], _, s, hs => by simp at hs
  | t :: r, h, s, hs => by
    obtain ⟨h1, h2, h3, h4, h5⟩ := spR_cons h
    have h6 := h4 q rfl
    rcases List.mem_cons.1 hs with rfl | hs
    · exact ⟨h6, h1⟩
    · have := spR_lo h5 s hs
      omega
theorem inS_less {v q : Int} {l : List Sp} (h : spR (some q) l = true) (hv : v ≤ q + 1) : inS v l = false := by
  unfold inS
  rw [List.any_eq_false]
  intro s hs
  have := spR_lo h s hs
  simp; omega
theorem plR_less {v q : Int} : ∀ {l : List Sp} {n : Int}, spR (some q) l = true → v ≤ q + 1 → plR v l n = n
  | [], n, _, _ => rfl
  | s :: r, n, h, hv => by
    obtain ⟨h1, h2, h3, h4, h5⟩ := spR_cons h
    have h6 := h4 q rfl
    unfold plR
    rw [if_neg (by omega), if_neg (by omega)]
    exact plR_less h5 (by omega)
theorem inS_cons {v : Int} {s : Sp} {r : List Sp} : inS v (s :: r) = ((decide (s.lo ≤ v) && decide (v ≤ s.hi)) || inS v r) := rfl
/-- both tell the same place -/
theorem plS_plR {v : Int} : ∀ {l : List Sp} {p : Option Int} {n : Int}, spR p l = true → plS v l n = if inS v l = true then plR v l n else -1
  | [], p, n, _ => rfl
  | s :: r, p, n, h => by
    obtain ⟨h1, h2, h3, h4, h5⟩ := spR_cons h
    unfold plS plR
    rw [inS_cons]
    by_cases c1 : v < s.lo
    · rw [if_pos c1, inS_less h5 (by omega)]
      simp; omega
    · rw [if_neg c1]
      by_cases c2 : v ≤ s.hi
      · rw [if_pos c2, if_pos (by simp; left; omega), if_neg (by omega), if_pos (by omega), plR_less h5 (by omega)]
      · have e : (decide (s.lo ≤ v) && decide (v ≤ s.hi)) = false := by simp; omega
        rw [if_neg c2, e, Bool.false_or, plS_plR h5, if_pos (show s.hi < v by omega), show n + (s.hi - s.lo + 1) = n + s.hi + 1 - s.lo by omega]
theorem plR_ge {v : Int} : ∀ {l : List Sp} {p : Option Int} {n : Int}, spR p l = true → n ≤ plR v l n
  | [], p, n, _ => Int.le_refl _
  | s :: r, p, n, h => by
    obtain ⟨h1, h2, h3, h4, h5⟩ := spR_cons h
    unfold plR
    have := plR_ge (v := v) (n := if s.hi < v then n + s.hi + 1 - s.lo else if s.lo ≤ v then n + v - s.lo else n) h5
    split at this
    · rename_i c; rw [if_pos c]; omega
    · rename_i c
      rw [if_neg c]
      split at this
      · rename_i c2; rw [if_pos c2]; omega
      · rename_i c2; rw [if_neg c2]; exact this
/-- what stands at a place stands there -/
theorem atS_pl : ∀ {l : List Sp} {p : Option Int} {k n : Int}, spR p l = true → 0 ≤ k → k < spS l → ∃ v, atS l k = (v, true) ∧ inS v l = true ∧ plR v l n = n + k ∧ (∀ q, p = some q → q + 1 < v)
  | [], p, k, n, _, h0, hk => by simp [spS] at hk; omega
  | s :: r, p, k, n, h, h0, hk => by
    obtain ⟨h1, h2, h3, h4, h5⟩ := spR_cons h
    have e : spS (s :: r) = (s.hi - s.lo + 1) + spS r := rfl
    unfold atS plR
    by_cases c : k < s.hi - s.lo + 1
    · rw [if_pos c]
      refine ⟨s.lo + k, rfl, by rw [inS_cons]; simp; left; omega, ?_, fun q e => by have := h4 q e; omega⟩
      rw [if_neg (by omega), if_pos (by omega), plR_less h5 (by omega)]
      omega
    · rw [if_neg c]
      obtain ⟨v, k1, k2, k3, k4⟩ := atS_pl (k := k - (s.hi - s.lo + 1)) (n := n + s.hi + 1 - s.lo) h5 (by omega) (by omega)
      have k5 := k4 s.hi rfl
      refine ⟨v, k1, by rw [inS_cons, k2, Bool.or_true], ?_, fun q e => by have := h4 q e; omega⟩
      rw [if_pos (by omega), k3]
      omega
end Go.RR.M
set_option linter.unusedVariables false
set_option linter.unusedSimpArgs false
set_option maxRecDepth 100000
set_option maxHeartbeats 4000000
namespace Go.RR.M
open Go Go.RR
theorem at_loop (l : List Sp) (hl : l.length ≤ 1000000) (hb : ∀ s ∈ l, s.lo ≤ s.hi ∧ -1048576 ≤ s.lo ∧ s.hi ≤ 1048576) : ∀ (d i : Nat) (k : Int) (h : List Ob), i + d = l.length → -2199023255552 ≤ k ∧ k ≤ 2199023255552 → 0 ≤ k → k < spS (l.drop i) →
    ∃ h', evw C y0 i_spans_At_l0 [(1, iv k), (17, spsV l), (18, iv l.length), (19, iv i)] h = some (.ret, [(4, iv (atS (l.drop i) k).1), (5, .bool (atS (l.drop i) k).2)], h')
  | 0, i, k, h, e, hk, h0, h1 => by
    obtain rfl : i = l.length := by omega
    rw [List.drop_length] at h1
    simp only [spS] at h1
    omega
  | d + 1, i, k, h, e, hk, h0, h1 => by
    have hlt : i < l.length := by omega
    have h2 : (i : Int) < l.length := by omega
    have h3 : l[i]? = some l[i] := by simp [hlt]
    have hw := wrap_succ (i := i) (n := l.length) hlt (by omega)
    have hs := hb l[i] (List.getElem_mem hlt)
    rw [List.drop_eq_getElem_cons hlt] at h1 ⊢
    simp only [spS] at h1
    have w1 : IntKind.i64.wrap (l[i].hi - l[i].lo) = l[i].hi - l[i].lo := wrap64 (by omega) (by omega)
    have w2 : IntKind.i64.wrap (l[i].hi - l[i].lo + 1) = l[i].hi - l[i].lo + 1 := wrap64 (by omega) (by omega)
    by_cases c : k < l[i].hi - l[i].lo + 1
    · have w3 : IntKind.i64.wrap (l[i].lo + k) = l[i].lo + k := wrap64 (by omega) (by omega)
      refine ⟨h ++ [.row 2 [spV l[i]]], ?_⟩
      rw [r_spans_At_0]
      unfold atS
      rw [if_pos c]
      simp [b_spans_At_0, h2, h3, w1, w2, w3, c]
    · have w3 : IntKind.i64.wrap (k - (l[i].hi - l[i].lo + 1)) = k - (l[i].hi - l[i].lo + 1) := wrap64 (by omega) (by omega)
      obtain ⟨h', ih⟩ := at_loop l hl hb d (i + 1) (k - (l[i].hi - l[i].lo + 1)) (h ++ [.row 2 [spV l[i]]]) (by omega) (by omega) (by omega) (by omega)
      refine ⟨h', ?_⟩
      unfold atS
      rw [if_neg c, ← ih, r_spans_At_0]
      simp [b_spans_At_0, h2, h3, w1, w2, w3, c, hw]
/-- the number at a place -/
def atV (l : List Sp) (k : Int) : Int × Bool := if k < 0 ∨ spN l ≤ k then (0, false) else atS l k
theorem spans_At (l : List Sp) (hl : l.length ≤ 1000000) (k : Int) (h : List Ob) : acw C n_spans_At [spsV l, iv k] h = some (.ret (.tup [iv (atV l k).1, .bool (atV l k).2]), h) := by
  have k1 := spans_Size l (by omega)
  by_cases c1 : k < 0
  · refine acw_ex (v := .tup [iv (atV l k).1, .bool (atV l k).2]) (CT T_spans_At) rfl rfl (fun _ => rfl) (by simp) ?_
    simp [runW_fin, F_spans_At, i_spans_At, c1, atV]
  by_cases c2 : spN l ≤ k
  · refine acw_ex (v := .tup [iv (atV l k).1, .bool (atV l k).2]) (CT T_spans_At) rfl rfl (fun _ => rfl) (by simp) ?_
    simp [runW_fin, F_spans_At, i_spans_At, c1, c2, atV, k1]
  have hr : spR none l = true := by
    cases e : spR none l with
    | true => rfl
    | false => simp [spN, e] at c2; omega
  have hn : spN l = spS l := by simp [spN, hr]
  have ht := spS_top hr
  obtain ⟨h', ih⟩ := at_loop l hl (spR_all hr) l.length 0 k [] (by omega) (by omega) (by omega) (by rw [List.drop_zero]; omega)
  rw [List.drop_zero] at ih
  simp only [Int.cast_ofNat_Int] at ih
  refine acw_ex (v := .tup [iv (atV l k).1, .bool (atV l k).2]) (CT T_spans_At) rfl rfl (fun _ => rfl) (by simp) ?_
  have e : atV l k = atS l k := by unfold atV; rw [if_neg (by omega)]
  rw [e]
  exact ⟨h', by simp [runW_fin, F_spans_At, i_spans_At, c1, c2, k1, ih]⟩
end Go.RR.M
set_option linter.unusedVariables false
set_option linter.unusedSimpArgs false
set_option maxRecDepth 100000
set_option maxHeartbeats 4000000
namespace Go.RR.M
open Go Go.RR
theorem place_loop (l : List Sp) (hl : l.length ≤ 1000000) (hb : ∀ s ∈ l, s.lo ≤ s.hi ∧ -1048576 ≤ s.lo ∧ s.hi ≤ 1048576) (v : Int) : ∀ (d i : Nat) (n : Int) (h : List Ob), i + d = l.length → 0 ≤ n → n + spS (l.drop i) ≤ 2097153 →
    ∃ fr' h', evw C y0 i_spans_Place_l0 [(1, iv v), (5, iv n), (11, spsV l), (12, iv l.length), (13, iv i)] h = some (if plS v (l.drop i) n = -1 then (.ext 0, fr', h') else (.ret, [(4, iv (plS v (l.drop i) n))], h'))
  | 0, i, n, h, e, h0, h1 => by
    obtain rfl : i = l.length := by omega
    refine ⟨[(1, iv v), (5, iv n), (11, spsV l), (12, iv l.length), (13, iv l.length), (14, .bool false)], h, ?_⟩
    rw [List.drop_length, r_spans_Place_0]
    simp [b_spans_Place_0, plS]
  | d + 1, i, n, h, e, h0, h1 => by
    have hlt : i < l.length := by omega
    have h2 : (i : Int) < l.length := by omega
    have h3 : l[i]? = some l[i] := by simp [hlt]
    have hw := wrap_succ (i := i) (n := l.length) hlt (by omega)
    have hs := hb l[i] (List.getElem_mem hlt)
    have hnn : 0 ≤ spS (l.drop (i + 1)) := spS_nn fun s hs => hb s (List.mem_of_mem_drop hs)
    rw [List.drop_eq_getElem_cons hlt] at h1 ⊢
    simp only [spS] at h1
    unfold plS
    by_cases c1 : v < l[i].lo
    · rw [if_pos c1]
      refine ⟨[(1, iv v), (5, iv n), (7, .ptr h.length 0 0 1), (11, spsV l), (12, iv l.length), (13, iv i), (17, .bool true)], h ++ [.row 2 [spV l[i]]], ?_⟩
      rw [r_spans_Place_0]
      simp [b_spans_Place_0, h2, h3, c1]
    rw [if_neg c1]
    by_cases c2 : v ≤ l[i].hi
    · rw [if_pos c2]
      have w1 : IntKind.i64.wrap (n + v) = n + v := wrap64 (by omega) (by omega)
      have w2 : IntKind.i64.wrap (n + v - l[i].lo) = n + v - l[i].lo := wrap64 (by omega) (by omega)
      have c3 : ¬ (n + v - l[i].lo = -1) := by omega
      refine ⟨[], h ++ [.row 2 [spV l[i]]], ?_⟩
      rw [if_neg c3, r_spans_Place_0]
      simp [b_spans_Place_0, h2, h3, c1, c2, w1, w2]
    · rw [if_neg c2]
      have w1 : IntKind.i64.wrap (l[i].hi - l[i].lo) = l[i].hi - l[i].lo := wrap64 (by omega) (by omega)
      have w2 : IntKind.i64.wrap (l[i].hi - l[i].lo + 1) = l[i].hi - l[i].lo + 1 := wrap64 (by omega) (by omega)
      have w3 : IntKind.i64.wrap (n + (l[i].hi - l[i].lo + 1)) = n + (l[i].hi - l[i].lo + 1) := wrap64 (by omega) (by omega)
      obtain ⟨fr', h', ih⟩ := place_loop l hl hb v d (i + 1) (n + (l[i].hi - l[i].lo + 1)) (h ++ [.row 2 [spV l[i]]]) (by omega) (by omega) (by omega)
      refine ⟨fr', h', ?_⟩
      rw [← ih, r_spans_Place_0]
      simp [b_spans_Place_0, h2, h3, c1, c2, w1, w2, w3, hw]
/-- where a number stands -/
def plV (l : List Sp) (v : Int) : Int := if spR none l = true then plS v l 0 else -1
theorem spans_Place (l : List Sp) (hl : l.length ≤ 1000000) (v : Int) (h : List Ob) : acw C n_spans_Place [spsV l, iv v] h = some (.ret (iv (plV l v)), h) := by
  have k1 := spans_Right l (by omega)
  refine acw_ex (v := iv (plV l v)) (CT T_spans_Place) rfl rfl (fun _ => rfl) (by simp) ?_
  cases e : spR none l with
  | false =>
    rw [e] at k1
    simp [runW_fin, F_spans_Place, i_spans_Place, k1, plV, e]
  | true =>
    rw [e] at k1
    have ht := spS_top e
    obtain ⟨fr', h', ih⟩ := place_loop l hl (spR_all e) v l.length 0 0 [] (by omega) (Int.le_refl _) (by rw [List.drop_zero]; omega)
    rw [List.drop_zero] at ih
    simp only [Int.cast_ofNat_Int] at ih
    have e2 : plV l v = plS v l 0 := by simp [plV, e]
    rw [e2]
    by_cases c : plS v l 0 = -1
    · rw [if_pos c] at ih
      exact ⟨h', by simp [runW_fin, F_spans_Place, i_spans_Place, k1, ih, c]⟩
    · rw [if_neg c] at ih
      exact ⟨h', by simp [runW_fin, F_spans_Place, i_spans_Place, k1, ih]⟩
theorem spans_Has (l : List Sp) (hl : l.length ≤ 1000000) (v : Int) (h : List Ob) : acw C n_spans_Has [spsV l, iv v] h = some (.ret (.bool (decide (0 ≤ plV l v))), h) := by
  have k1 := spans_Place l hl v
  refine acw_ex (v := .bool (decide (0 ≤ plV l v))) (CT T_spans_Has) rfl rfl (fun _ => rfl) (by simp) ?_
  simp [runW_fin, F_spans_Has, i_spans_Has, k1]
theorem rin_loop (l : List Sp) (hl : l.length ≤ 1000000) (v : Int) (h : List Ob) : ∀ (d i : Nat), i + d = l.length →
    evw C y0 i_ref03_In_l0 [(0, spsV l), (1, iv v), (5, iv i)] h = some (if inS v (l.drop i) = true then (.ret, [(4, .bool true)], h) else (.ext 0, [(0, spsV l), (1, iv v), (5, iv l.length), (9, .bool false)], h))
  | 0, i, e => by
    obtain rfl : i = l.length := by omega
    rw [List.drop_length, r_ref03_In_0]
    simp [b_ref03_In_0, inS]
  | d + 1, i, e => by
    have hlt : i < l.length := by omega
    have h2 : (i : Int) < l.length := by omega
    have h3 : l[i]? = some l[i] := by simp [hlt]
    have hw := wrap_succ (i := i) (n := l.length) hlt (by omega)
    have ih := rin_loop l hl v h d (i + 1) (by omega)
    simp only [Int.natCast_add, Int.cast_ofNat_Int] at ih
    rw [List.drop_eq_getElem_cons hlt, inS_cons, r_ref03_In_0]
    by_cases c1 : l[i].lo ≤ v
    · by_cases c2 : v ≤ l[i].hi
      · simp [b_ref03_In_0, h2, h3, c1, c2]
      · have e : (decide (l[i].lo ≤ v) && decide (v ≤ l[i].hi)) = false := by simp [c2]
        rw [e, Bool.false_or, ← ih]
        simp [b_ref03_In_0, h2, h3, c1, c2, hw]
    · have e : (decide (l[i].lo ≤ v) && decide (v ≤ l[i].hi)) = false := by simp [c1]
      rw [e, Bool.false_or, ← ih]
      simp [b_ref03_In_0, h2, h3, c1, hw]
theorem ref03_In (l : List Sp) (hl : l.length ≤ 1000000) (v : Int) (h : List Ob) : acw C n_ref03_In [spsV l, iv v] h = some (.ret (.bool (inS v l)), h) := by
  have ih := rin_loop l hl v [] l.length 0 (by omega)
  rw [List.drop_zero] at ih
  simp only [Int.cast_ofNat_Int] at ih
  refine acw_ex (v := .bool (inS v l)) (CT T_ref03_In) rfl rfl (fun _ => rfl) (by simp) ?_
  cases e : inS v l with
  | true => rw [e] at ih; simp [runW_fin, F_ref03_In, i_ref03_In, ih]
  | false => rw [e] at ih; simp [runW_fin, F_ref03_In, i_ref03_In, ih]
theorem rpl_loop (l : List Sp) (hl : l.length ≤ 1000000) (hb : ∀ s ∈ l, s.lo ≤ s.hi ∧ -1048576 ≤ s.lo ∧ s.hi ≤ 1048576) (v : Int) (h : List Ob) : ∀ (d i : Nat) (n : Int), i + d = l.length → 0 ≤ n → n + spS (l.drop i) ≤ 2097153 →
    evw C y0 i_ref03_Place_l0 [(0, spsV l), (1, iv v), (5, iv n), (6, iv i)] h = some (.ext 0, [(0, spsV l), (1, iv v), (5, iv (plR v (l.drop i) n)), (6, iv l.length), (19, .bool false)], h)
  | 0, i, n, e, h0, h1 => by
    obtain rfl : i = l.length := by omega
    rw [List.drop_length, r_ref03_Place_0]
    simp [b_ref03_Place_0, plR]
  | d + 1, i, n, e, h0, h1 => by
    have hlt : i < l.length := by omega
    have h2 : (i : Int) < l.length := by omega
    have h3 : l[i]? = some l[i] := by simp [hlt]
    have hw := wrap_succ (i := i) (n := l.length) hlt (by omega)
    have hs := hb l[i] (List.getElem_mem hlt)
    have hnn : 0 ≤ spS (l.drop (i + 1)) := spS_nn fun s hs => hb s (List.mem_of_mem_drop hs)
    rw [List.drop_eq_getElem_cons hlt] at h1 ⊢
    simp only [spS] at h1
    unfold plR
    by_cases c1 : l[i].hi < v
    · rw [if_pos c1]
      have w1 : IntKind.i64.wrap (n + l[i].hi) = n + l[i].hi := wrap64 (by omega) (by omega)
      have w2 : IntKind.i64.wrap (n + l[i].hi + 1) = n + l[i].hi + 1 := wrap64 (by omega) (by omega)
      have w3 : IntKind.i64.wrap (n + l[i].hi + 1 - l[i].lo) = n + l[i].hi + 1 - l[i].lo := wrap64 (by omega) (by omega)
      have ih := rpl_loop l hl hb v h d (i + 1) (n + l[i].hi + 1 - l[i].lo) (by omega) (by omega) (by omega)
      simp only [Int.natCast_add, Int.cast_ofNat_Int] at ih
      rw [← ih, r_ref03_Place_0]
      simp [b_ref03_Place_0, h2, h3, c1, w1, w2, w3, hw]
    · rw [if_neg c1]
      by_cases c2 : l[i].lo ≤ v
      · rw [if_pos c2]
        have w1 : IntKind.i64.wrap (n + v) = n + v := wrap64 (by omega) (by omega)
        have w2 : IntKind.i64.wrap (n + v - l[i].lo) = n + v - l[i].lo := wrap64 (by omega) (by omega)
        have ih := rpl_loop l hl hb v h d (i + 1) (n + v - l[i].lo) (by omega) (by omega) (by omega)
        simp only [Int.natCast_add, Int.cast_ofNat_Int] at ih
        rw [← ih, r_ref03_Place_0]
        simp [b_ref03_Place_0, h2, h3, c1, c2, w1, w2, hw]
      · rw [if_neg c2]
        have ih := rpl_loop l hl hb v h d (i + 1) n (by omega) h0 (by omega)
        simp only [Int.natCast_add, Int.cast_ofNat_Int] at ih
        rw [← ih, r_ref03_Place_0]
        simp [b_ref03_Place_0, h2, h3, c1, c2, hw]
theorem plV_ref (l : List Sp) (v : Int) : plV l v = if spR none l = true ∧ inS v l = true then plR v l 0 else -1 := by
  unfold plV
  by_cases e : spR none l = true
  · rw [if_pos e, plS_plR e]
    simp [e]
  · rw [if_neg e, if_neg fun c => e c.1]
theorem ref03_Place (l : List Sp) (hl : l.length ≤ 1000000) (v : Int) (h : List Ob) : acw C n_ref03_Place [spsV l, iv v] h = some (.ret (iv (plV l v)), h) := by
  have k1 := ref03_Right l (by omega)
  have k2 := ref03_In l hl v
  have e2 := plV_ref l v
  refine acw_ex (v := iv (plV l v)) (CT T_ref03_Place) rfl rfl (fun _ => rfl) (by simp) ?_
  cases e : spR none l with
  | false =>
    rw [e] at k1 e2
    simp at e2
    simp [runW_fin, F_ref03_Place, i_ref03_Place, k1, e2]
  | true =>
    rw [e] at k1 e2
    cases e3 : inS v l with
    | false =>
      rw [e3] at k2 e2
      simp at e2
      simp [runW_fin, F_ref03_Place, i_ref03_Place, k1, k2, e2]
    | true =>
      rw [e3] at k2 e2
      simp at e2
      have ht := spS_top e
      have ih := rpl_loop l hl (spR_all e) v [] l.length 0 0 (by omega) (Int.le_refl _) (by rw [List.drop_zero]; omega)
      rw [List.drop_zero] at ih
      simp only [Int.cast_ofNat_Int] at ih
      simp [runW_fin, F_ref03_Place, i_ref03_Place, k1, k2, e2, ih]
end Go.RR.M
set_option linter.unusedVariables false
set_option linter.unusedSimpArgs false
set_option maxRecDepth 100000
set_option maxHeartbeats 8000000
namespace Go.RR.M
open Go Go.RR
theorem has_eq (l : List Sp) (v : Int) : decide (0 ≤ plV l v) = (spR none l && inS v l) := by
  rw [plV_ref]
  cases e : spR none l with
  | false => simp
  | true =>
    cases e2 : inS v l with
    | false => simp
    | true =>
      have := plR_ge (v := v) (n := 0) e
      simp; omega
theorem spR_of {l : List Sp} {k : Int} (h0 : ¬ k < 0) (h1 : ¬ spN l ≤ k) : spR none l = true ∧ spN l = spS l := by
  cases e : spR none l with
  | true => exact ⟨rfl, by simp [spN, e]⟩
  | false => simp [spN, e] at h1; omega
theorem refS_len : ∀ (n : Nat) (s : List Int) (out : List Sp), (refS n s out).length ≤ out.length + n
  | 0, _, _ => Nat.le_refl _
  | n + 1, [], _ => by simp [refS]
  | n + 1, x :: r, out => by
    have := refS_len n (r.filter fun v => decide (x < v)) (outR out x)
    have h2 := outR_len out x
    simp only [refS]
    omega
theorem ofL_len : ∀ (s : List Int) (out r : List Sp), ofL out s = some r → r.length ≤ out.length + s.length
  | [], out, r, h => by cases h; simp
  | x :: s, out, r, h => by
    simp only [ofL] at h
    split at h <;> try contradiction
    have := ofL_len s _ r h
    have h2 := putS_len out ⟨x, x⟩
    simp only [List.length_cons]
    omega
theorem ofR_len (l : List Int) : (ofR l).1.length ≤ l.length := by
  unfold ofR
  split
  · rename_i r e
    have := ofL_len _ _ _ e
    rw [sortI_length] at this
    simpa using this
  · simp
theorem tells (l : List Sp) (v k : Int) (vs : List Int) (h : List Ob) : acw C n_law03_SpansTells [spsV l, iv v, iv k, intsV vs] h = some (.ret (.bool true), h) := by
  refine acw_ex (v := .bool true) (CT T_law03_SpansTells) rfl rfl (fun _ => rfl) (by simp) ?_
  have k0 := awake
  by_cases c1 : (60 : Int) < l.length
  · have c1' : (60 : Int) < l.length := by omega
    simp [runW_fin, F_law03_SpansTells, i_law03_SpansTells, k0, c1, c1']
  by_cases c2 : (60 : Int) < vs.length
  · have c2' : (60 : Int) < vs.length := by omega
    simp [runW_fin, F_law03_SpansTells, i_law03_SpansTells, k0, c1, c2, c2']
  have k1 := ref03_Right l (by omega)
  have k2 := spans_Right l (by omega)
  have k3 := spans_Size l (by omega)
  have k4 := ref03_Size l (by omega)
  have k5 := spans_Has l (by omega) v
  have k6 := ref03_In l (by omega) v
  have k7 := spans_Place l (by omega)
  have k8 := ref03_Place l (by omega)
  have k9 := spans_Of vs (by omega)
  have k10 := ref03_Of vs (by omega)
  have k11 := spans_At l (by omega) k
  have k12 := ref03_Same (ofR vs).1 (ofR vs).1 (by
    have : (ofR vs).1.length ≤ 1000000 := by
      have := ofR_len vs
      omega
    omega)
  rw [has_eq] at k5
  simp only [decide_true] at k12
  by_cases c3 : k < 0
  · have e : atV l k = (0, false) := by simp [atV, c3]
    have c3' : ¬ 0 ≤ k := by omega
    rw [e] at k11
    cases er : spR none l with
    | false => rw [er] at k1 k2 k5; simp [runW_fin, F_law03_SpansTells, i_law03_SpansTells, k0, c1, c2, k1, k2, k3, k4, k5, k6, k7, k8, k9, k10, k11, k12, c3, c3', ieq, ine]
    | true =>
      rw [er] at k1 k2 k5
      cases ei : inS v l with
      | false => rw [ei] at k5 k6; simp [runW_fin, F_law03_SpansTells, i_law03_SpansTells, k0, c1, c2, k1, k2, k3, k4, k5, k6, k7, k8, k9, k10, k11, k12, c3, c3', ieq, ine]
      | true => rw [ei] at k5 k6; simp [runW_fin, F_law03_SpansTells, i_law03_SpansTells, k0, c1, c2, k1, k2, k3, k4, k5, k6, k7, k8, k9, k10, k11, k12, c3, c3', ieq, ine]
  have c3' : 0 ≤ k := by omega
  by_cases c4 : spN l ≤ k
  · have e : atV l k = (0, false) := by simp [atV, c4]
    have c4' : ¬ k < spN l := by omega
    rw [e] at k11
    cases er : spR none l with
    | false => rw [er] at k1 k2 k5; simp [runW_fin, F_law03_SpansTells, i_law03_SpansTells, k0, c1, c2, k1, k2, k3, k4, k5, k6, k7, k8, k9, k10, k11, k12, c3, c3', c4, c4', ieq, ine]
    | true =>
      rw [er] at k1 k2 k5
      cases ei : inS v l with
      | false => rw [ei] at k5 k6; simp [runW_fin, F_law03_SpansTells, i_law03_SpansTells, k0, c1, c2, k1, k2, k3, k4, k5, k6, k7, k8, k9, k10, k11, k12, c3, c3', c4, c4', ieq, ine]
      | true => rw [ei] at k5 k6; simp [runW_fin, F_law03_SpansTells, i_law03_SpansTells, k0, c1, c2, k1, k2, k3, k4, k5, k6, k7, k8, k9, k10, k11, k12, c3, c3', c4, c4', ieq, ine]
  obtain ⟨er, en⟩ := spR_of c3 c4
  have c4' : k < spN l := by omega
  obtain ⟨n, a1, a2, a3, -⟩ := atS_pl (n := 0) er c3' (by omega)
  have e : atV l k = (n, true) := by unfold atV; rw [if_neg (by omega), a1]
  have e2 : plV l n = k := by rw [plV_ref, if_pos ⟨er, a2⟩, a3]; omega
  rw [e] at k11
  have k13 := k8 n
  rw [e2] at k13
  rw [er] at k1 k2 k5
  have k8v := k8 v
  have k7v := k7 v
  clear k8 k7
  cases ei : inS v l with
  | false => rw [ei] at k5 k6; simp [runW_fin, F_law03_SpansTells, i_law03_SpansTells, k0, c1, c2, k1, k2, k3, k4, k5, k6, k7v, k8v, k9, k10, k11, k12, k13, c3, c3', c4, c4', ieq, ine]
  | true => rw [ei] at k5 k6; simp [runW_fin, F_law03_SpansTells, i_law03_SpansTells, k0, c1, c2, k1, k2, k3, k4, k5, k6, k7v, k8v, k9, k10, k11, k12, k13, c3, c3', c4, c4', ieq, ine]
end Go.RR.M
