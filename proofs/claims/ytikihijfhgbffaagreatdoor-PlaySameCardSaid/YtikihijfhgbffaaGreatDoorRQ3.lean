/- Plays: what is won, and the value; plain. -/
import Derived.Test.YtikihijfhgbffaaGreatDoorRQ2
import Derived.Test.YtikihijfhgbffaaGreatDoorRQ1
import Derived.KernelRfl
set_option linter.unusedVariables false
set_option linter.unusedSimpArgs false
set_option linter.unusedVariables false
set_option linter.unusedSimpArgs false
namespace Go.RR.PL
open Go Go.RR
/-- a game: how many variables there are, their numbers, whether a play is over and who has won, who chooses -/
structure Gm where
 n : Nat
 nums : Nat → List Int
 ov : List Int → Bool × Bool
 yes : Nat → Bool
def val (g : Gm) : Nat → List Int → Bool
 | 0, row => if (g.ov row).1 = true then (g.ov row).2 else false
 | f + 1, row => if (g.ov row).1 = true then (g.ov row).2 else if g.yes row.length = true then (g.nums row.length).any fun v => val g f (row ++ [v]) else (g.nums row.length).all fun v => val g f (row ++ [v])
def win (g : Gm) (y : Bool) : Nat → UT → List Int → Bool
 | 0, _, row => if (g.ov row).1 = true then (g.ov row).2 == y else false
 | f + 1, .nd k p cs, row => if (g.ov row).1 = true then (g.ov row).2 == y else
   if g.yes row.length = y then decide (k = 1) && decide (0 ≤ p) && decide (p < (g.nums row.length).length) && (match cs with
    | c :: _ => win g y f c (row ++ [(g.nums row.length).getD p.toNat 0])
    | [] => false)
   else decide (k = 2) && decide (cs.length = (g.nums row.length).length) && (cs.zip (g.nums row.length)).all fun q => win g y f q.1 (row ++ [q.2])
end Go.RR.PL
set_option linter.unusedVariables false
set_option linter.unusedSimpArgs false
set_option maxRecDepth 100000
set_option maxHeartbeats 8000000
namespace Go.RR.PL
open Go Go.RR Go.RR.M
def tabV (m : Mod) : V := .agg [blksV m.blocks, consV m.goal, declsV (varsOf m.blocks), intsV (endsOf 0 m.blocks)]
theorem lay (m : Mod) (hm : modOK m) (h : List Ob) : acw C n_play_lay [modV m] h = some (.ret (.ptr (h.length + 1) 0 0 1), h ++ [.row 2 [modV m], .row 4 [tabV m]]) := by
 have k1 := fun h => vars m hm h
 have k2 := fun h => ends m hm h
 rw [acw_hm (CT T_play_lay) rfl]
 simp [runW_fin, F_play_lay, i_play_lay, k1, k2, modV, tabV]
/-- the first block that ends at a place, or behind it -/
def endAt (m : Mod) (k : Int) : Int := idx (fun e => k == e) (endsOf 0 m.blocks)
def fullB (m : Mod) (row : List Int) : Bool × Bool := if (row.length : Int) = (varsOf m.blocks).length then (true, allB m.goal row) else (false, false)
def overB (m : Mod) (row : List Int) : Bool × Bool :=
 if 0 ≤ endAt m row.length then (match m.blocks[(endAt m row.length).toNat]? with
  | some b => if allB b.wh row = true then fullB m row else (true, b.all)
  | none => fullB m row) else fullB m row
theorem idxInt (l : List Int) (x : Int) (hl : l.length ≤ 4611686018427387904) (h : List Ob) : acw C n_slices_Index_sint_int [intsV l, iv x] h = some (.ret (iv (idx (fun y => x == y) l)), h) := by
 have := index (C := C) (n := n_slices_Index_sint_int) (CT T_slices_Index_sint_int) (enc := V.int .i64) (q := fun a b => a == b) cmp_int l x hl (fun _ _ => elt_int) Fz.int h
 exact this
theorem endAt_lt {m : Mod} {k : Int} (h : 0 ≤ endAt m k) : (endAt m k).toNat < m.blocks.length := by
 have := (idx_ge (fun e => k == e) (endsOf 0 m.blocks)).2
 rw [endsOf_len] at this
 unfold endAt at h ⊢
 omega
theorem over (m : Mod) (hm : modOK m) (row : List Int) (hr : row.length ≤ 1000) (h : List Ob) : acw C n_play_table_over [.pin (tabV m) 0, intsV row] h = some (.ret (.tup [.bool (overB m row).1, .bool (overB m row).2]), h) := by
 obtain ⟨m1, m2, m3, m4⟩ := hm
 have hel : (endsOf 0 m.blocks).length ≤ 4611686018427387904 := by rw [endsOf_len]; omega
 have ki := fun h => idxInt (endsOf 0 m.blocks) row.length hel h
 have hg := fun h => gAll m.goal row (by omega) (by omega) m3 h
 refine acw_ex (v := .tup [.bool (overB m row).1, .bool (overB m row).2]) (CT T_play_table_over) rfl rfl (fun _ => rfl) (by simp) ?_
 unfold overB
 obtain ⟨e, he⟩ : ∃ e, e = endAt m row.length := ⟨_, rfl⟩
 have he' : idx (fun y => (row.length : Int) == y) (endsOf 0 m.blocks) = e := he.symm
 rw [← he]
 simp only [he'] at ki
 by_cases c : 0 ≤ e
 ·have hlt : e.toNat < m.blocks.length := by rw [he]; exact endAt_lt (by rw [← he]; exact c)
  obtain ⟨b, hb⟩ : ∃ b, b = m.blocks[e.toNat] := ⟨_, rfl⟩
  have hb1 : m.blocks[e.toNat]? = some b := by simp [hlt, hb]
  have hb2 : ∀ h : e.toNat < m.blocks.length, m.blocks[e.toNat]'h = b := fun _ => hb.symm
  have hbok := m4 b (by rw [hb]; exact List.getElem_mem hlt)
  have hw := fun h => gAll b.wh row (by have := hbok.2.1; omega) (by omega) hbok.2.2.1 h
  have hlt2 : e < m.blocks.length := by omega
  obtain ⟨n, rfl⟩ : ∃ n : Nat, e = n := ⟨e.toNat, by omega⟩
  simp only [Int.toNat_natCast] at hb1 hb2 hlt
  have b1 : blkV b = .agg [.bool b.all, declsV b.vars, consV b.wh] := rfl
  by_cases d : allB b.wh row = true
  ·by_cases f : (row.length : Int) = (varsOf m.blocks).length
   ·refine ⟨[.row 3 [blkV b]], ?_⟩
    have hF : fullB m row = (true, allB m.goal row) := if_pos f
    have f2 : ((row.length : Int) == (varsOf m.blocks).length) = true := by simpa using f
    clear f
    simp [runW_fin, F_play_table_over, i_play_table_over, tabV, ki, hlt, hlt2, hb1, hb2, b1, hw, d, f2, hF, hg]
   ·refine ⟨[.row 3 [blkV b]], ?_⟩
    have hF : fullB m row = (false, false) := if_neg f
    have f2 : ((row.length : Int) == (varsOf m.blocks).length) = false := by simpa using f
    simp [runW_fin, F_play_table_over, i_play_table_over, tabV, ki, hlt, hlt2, hb1, hb2, b1, hw, d, f2, hF]
  ·refine ⟨[.row 3 [blkV b]], ?_⟩
   simp [runW_fin, F_play_table_over, i_play_table_over, tabV, ki, hlt, hlt2, hb1, hb2, b1, hw, d]
 ·by_cases f : (row.length : Int) = (varsOf m.blocks).length
  ·refine ⟨[], ?_⟩
   have hF : fullB m row = (true, allB m.goal row) := if_pos f
   have f2 : ((row.length : Int) == (varsOf m.blocks).length) = true := by simpa using f
   clear f
   simp [runW_fin, F_play_table_over, i_play_table_over, tabV, ki, c, f2, hF, hg]
  ·refine ⟨[], ?_⟩
   have hF : fullB m row = (false, false) := if_neg f
   have f2 : ((row.length : Int) == (varsOf m.blocks).length) = false := by simpa using f
   simp [runW_fin, F_play_table_over, i_play_table_over, tabV, ki, c, f2, hF]
end Go.RR.PL
set_option linter.unusedVariables false
set_option linter.unusedSimpArgs false
set_option maxRecDepth 100000
set_option maxHeartbeats 8000000
namespace Go.RR.PL
open Go Go.RR Go.RR.M
def stepAt (m : Mod) (k : Int) : Int := idx (fun e => decide (k < e)) (endsOf 0 m.blocks)
def yesB (m : Mod) (k : Nat) : Bool := match m.blocks[(stepAt m k).toNat]? with
 | some b => !b.all
 | none => false
theorem yes_1 (e : Int) (row : List Int) (h : List Ob) : acw C n_play_table_yes_1 [iv e, .pin (intsV row) 0] h = some (.ret (.bool (decide ((row.length : Int) < e))), h) := by
 refine acw_ex (v := .bool (decide ((row.length : Int) < e))) (CT T_play_table_yes_1) rfl rfl (fun _ => rfl) (by simp) ?_
 exact ⟨[], by simp [runW_fin, F_play_table_yes_1, i_play_table_yes_1]⟩
theorem stepAt_lt {m : Mod} {k : Int} (h : 0 ≤ stepAt m k) : (stepAt m k).toNat < m.blocks.length := by
 have := (idx_ge (fun e => decide (k < e)) (endsOf 0 m.blocks)).2
 rw [endsOf_len] at this
 unfold stepAt at h ⊢
 omega
theorem yes (m : Mod) (hm : modOK m) (row : List Int) (hs : 0 ≤ stepAt m row.length) (h : List Ob) : acw C n_play_table_yes [.pin (tabV m) 0, intsV row] h = some (.ret (.bool (yesB m row.length)), h) := by
 obtain ⟨m1, m2, m3, m4⟩ := hm
 have hel : (endsOf 0 m.blocks).length ≤ 4611686018427387904 := by rw [endsOf_len]; omega
 have hx : frz [.row 1 [intsV row]] fdepth (.fn (.func n_play_table_yes_1) [] [.ptr 0 0 0 1]) = some (.fn (.func n_play_table_yes_1) [] [.pin (intsV row) 0]) := frz_oneV rfl rfl
 have ki := indexFunc (C := C) (n := n_slices_IndexFunc_sint_int) (enc := V.int .i64) (CT T_slices_IndexFunc_sint_int) (endsOf 0 m.blocks) hel (fun _ _ => elt_int) (g := n_play_table_yes_1) (first := []) (cap := [.pin (intsV row) 0]) (p := fun e => decide ((row.length : Int) < e)) hx (fun a _ => yes_1 a row [])
 have hlt := stepAt_lt hs
 have hlt2 : stepAt m row.length < m.blocks.length := by omega
 refine acw_ex (v := .bool (yesB m row.length)) (CT T_play_table_yes) rfl rfl (fun _ => rfl) (by simp) ⟨[.row 1 [intsV row]], ?_⟩
 unfold yesB
 obtain ⟨e, he⟩ : ∃ e, e = stepAt m row.length := ⟨_, rfl⟩
 have he' : idx (fun y => decide ((row.length : Int) < y)) (endsOf 0 m.blocks) = e := he.symm
 rw [he'] at ki
 rw [← he] at hs hlt hlt2 ⊢
 obtain ⟨b, hb⟩ : ∃ b, b = m.blocks[e.toNat] := ⟨_, rfl⟩
 have hb1 : m.blocks[e.toNat]? = some b := by simp [hlt, hb]
 have hb2 : ∀ h : e.toNat < m.blocks.length, m.blocks[e.toNat]'h = b := fun _ => hb.symm
 obtain ⟨n, rfl⟩ : ∃ n : Nat, e = n := ⟨e.toNat, by omega⟩
 simp only [Int.toNat_natCast] at hb1 hb2 hlt
 have b1 : blkV b = .agg [.bool b.all, declsV b.vars, consV b.wh] := rfl
 have ki2 : acw C n_slices_IndexFunc_sint_int [intsV (endsOf 0 m.blocks), .fn (.func n_play_table_yes_1) [] [.ptr 0 0 0 1]] [.row 1 [intsV row]] = some (.ret (iv n), [.row 1 [intsV row]]) := ki
 simp [runW_fin, F_play_table_yes, i_play_table_yes, tabV, ki2, hlt, hlt2, hb1, hb2, b1]
end Go.RR.PL
set_option linter.unusedVariables false
set_option linter.unusedSimpArgs false
set_option maxRecDepth 100000
set_option maxHeartbeats 8000000
namespace Go.RR.PL
open Go Go.RR Go.RR.M
abbrev iL (ks : List Int) : List V := ks.map (V.int .i64)
abbrev nextV (m : Mod) (row : List Int) : V := .fn (.func n_play_table_next_1) [] [.pin (.pin (tabV m) 0) 0, .pin (intsV row) 0]
theorem next (m : Mod) (row : List Int) (h : List Ob) : acw C n_play_table_next [.pin (tabV m) 0, intsV row] h = some (.ret (nextV m row), h) := by
 refine acw_pure (a2 := [.pin (tabV m) 0, intsV row]) (h' := [.row 1 [.pin (tabV m) 0], .row 1 [intsV row]]) (v := .fn (.func n_play_table_next_1) [] [.ptr 0 0 0 1, .ptr 1 0 0 1]) (v' := nextV m row) (CT T_play_table_next) rfl rfl ?_ (frz_two rfl rfl rfl rfl) (by simp)
 simp [runW_fin, F_play_table_next, i_play_table_next]
/-- what is left when a function goes through numbers -/
def goY (Y : Yl) (y : Nat) (row : List Int) : List Int → Nat → List Ob → Option (List Ob)
 | [], _, h => some h
 | v :: r, k, h => match Y [.mp y, iv k, .own h.length 0 (row.length + 1) (row.length + 1)] (h ++ [.row 1 (iL (row ++ [v]))]) with
  | some (.ret (.bool true), h') => goY Y y row r (k + 1) h'
  | some (.ret (.bool false), h') => some h'
  | _ => none
theorem clone_app (row : List Int) (hr : row.length ≤ 1000) (v : Int) (h : List Ob) : ∃ cv h1, acw C n_slices_Clone_sint_int [intsV row] h = some (.ret cv, h1) ∧ ∃ w, appV h1.length h1 1 8 cv (.sl 1 [iv v]) = some (.own h.length 0 (row.length + 1) (row.length + 1), w) ∧ wr h1 w = h ++ [.row 1 (iL (row ++ [v]))] := by
 have hH : ∀ a h, C.H n_slices_Clone_sint_int a h = cloneE 1 8 a h := fun a h => by simp [C, H, n_slices_Clone_sint_int, n_slices_Sort_sint_int, n_slices_Compact_sint_int]
 cases row with
 | nil =>
  refine ⟨.nsl 1, h, acw_H rfl (by rw [hH]; rfl), some (h.length, .row 1 [iv v]), ?_, by simp [wr]⟩
  exact appV_nsl rfl (by simp) rfl (by simp) (by simp)
 | cons a r =>
  have e : cloneE 1 8 [intsV (a :: r)] h = some (.ret (.own h.length 0 (r.length + 1) (r.length + 1)), h ++ [.row 1 (iL (a :: r))]) := by
   have hd : dataL (iL (a :: r)) = true := by
    have : ∀ l : List Int, dataL (iL l) = true := fun l => by
     induction l with
     | nil => rfl
     | cons x t ih => simp only [iL, List.map_cons, dataL] at ih ⊢; rw [ih]; rfl
    exact this _
   simp only [List.length_cons] at hr
   show cloneH 1 8 [.sl 1 (iL (a :: r))] h = _
   simp only [cloneH]
   rw [if_pos ⟨trivial, rfl, by simp; omega, by simp; omega, hd⟩]
   simp
  refine ⟨_, _, acw_H rfl (by rw [hH]; exact e), some (h.length, .row 1 (iL (a :: r) ++ [iv v])), ?_, by simp [wr]⟩
  exact appV_own (xs := iL (a :: r)) (by simp) (by simp) rfl (by simp) (by simp) (by simp only [List.length_cons] at hr ⊢; omega) (by simp only [List.length_cons] at hr ⊢; omega)
variable {m : Mod} {row : List Int} {d : Decl}
theorem next_loop (hdl : d.dom.length ≤ 1000000) (hsp : spR none d.dom = true) (hr : row.length ≤ 1000) (Y : Yl) (y : Nat) (p1 : V) : ∀ (k i : Nat) (h h' : List Ob), i + k = (valS d.dom).length → goY Y y row ((valS d.dom).drop i) i h = some h' →
  ∃ x fr, (x = .ext 0 ∨ x = .ret) ∧ evw C Y i_play_table_next_1_l0 [(0, .mp y), (2, .pin (intsV row) 0), (4, spsV d.dom), (18, iv (spN d.dom)), (19, iv i)] h = some (x, fr, h') := by
 have hN : spN d.dom = (valS d.dom).length := by unfold spN; rw [if_pos hsp, valS_len (spR_all hsp)]
 have htop := spN_top d.dom
 intro k
 induction k with
 | zero =>
  intro i h h' hi hg
  have : i = (valS d.dom).length := by omega
  subst this
  rw [List.drop_length] at hg
  simp only [goY] at hg
  cases hg
  refine ⟨.ext 0, [(0, .mp y), (2, .pin (intsV row) 0), (4, spsV d.dom), (18, iv (valS d.dom).length), (19, iv (valS d.dom).length), (20, .bool false)], .inl rfl, ?_⟩
  rw [r_play_table_next_1_0, hN]
  simp [b_play_table_next_1_0]
 | succ k ih =>
  intro i h h' hi hg
  have hlt : i < (valS d.dom).length := by omega
  rw [List.drop_eq_getElem_cons hlt] at hg
  obtain ⟨v, hv⟩ : ∃ v, v = (valS d.dom)[i] := ⟨_, rfl⟩
  rw [← hv] at hg
  have hat : atV d.dom (i : Int) = (v, true) := by
   unfold atV
   rw [if_neg (by omega), atS_val i hlt (spR_all hsp), hv]
  have ka := spans_At d.dom hdl (i : Int) h
  rw [hat] at ka
  obtain ⟨cv, h1, c1, w, c2, c3⟩ := clone_app row hr v h
  have hw : IntKind.i64.wrap ((i : Int) + 1) = (i : Int) + 1 := wrap64 (by omega) (by omega)
  have hi4 : (i : Int) < (valS d.dom).length := by omega
  have kbs : bsfL (.int .i64 0) [iv v] = some (.sl 1 [iv v]) := rfl
  simp only [goY] at hg
  cases hY : Y [.mp y, iv i, .own h.length 0 (row.length + 1) (row.length + 1)] (h ++ [.row 1 (iL (row ++ [v]))]) with
  | none => rw [hY] at hg; cases hg
  | some q =>
   obtain ⟨o, h2⟩ := q
   rw [hY] at hg
   cases o with
   | pan v => cases hg
   | ret u =>
   cases u with
   | bool bb =>
    cases bb with
    | true =>
     simp only at hg
     obtain ⟨x, fr, hx, e⟩ := ih (i + 1) h2 h' (by omega) hg
     simp only [Int.natCast_add, Int.cast_ofNat_Int] at e
     rw [hN] at e
     refine ⟨x, fr, hx, ?_⟩
     simp at hY
     rw [r_play_table_next_1_0, hN]
     simp [b_play_table_next_1_0, hi4, ka, c1, kbs, c2, c3, hY, hw]
     exact e
    | false =>
     simp only at hg
     cases hg
     refine ⟨.ret, [(0, .mp y), (2, .pin (intsV row) 0), (4, spsV d.dom), (18, iv (valS d.dom).length), (19, iv i), (36, .bool true)], .inr rfl, ?_⟩
     simp at hY
     rw [r_play_table_next_1_0, hN]
     simp [b_play_table_next_1_0, hi4, ka, c1, kbs, c2, c3, hY, hw]
   | _ => cases hg
theorem next_iter (hd : (varsOf m.blocks)[row.length]? = some d) (hdl : d.dom.length ≤ 1000000) (hsp : spR none d.dom = true) (hr : row.length ≤ 1000) (Y : Yl) (y : Nat) (h h' : List Ob) (hg : goY Y y row (valS d.dom) 0 h = some h') :
  itw C Y n_play_table_next_1 [.mp y, .pin (.pin (tabV m) 0) 0, .pin (intsV row) 0] h = some (.ret (.tup []), h') := by
 obtain ⟨x, fr, hx, e⟩ := next_loop hdl hsp hr Y y (.pin (.pin (tabV m) 0) 0) (valS d.dom).length 0 h h' (by omega) (by simpa using hg)
 simp only [Int.cast_ofNat_Int] at e
 have ks := fun h => spans_Size d.dom (by omega) h
 have hlt := (List.getElem?_eq_some_iff.1 hd).1
 have hd2 : ∀ h : row.length < (varsOf m.blocks).length, (varsOf m.blocks)[row.length]'h = d := fun _ => (List.getElem?_eq_some_iff.1 hd).2
 have hi4 : (row.length : Int) < (varsOf m.blocks).length := by omega
 have b1 : declV d = .agg [.str d.name, spsV d.dom] := rfl
 rw [itw_T (CT T_play_table_next_1)]
 rcases hx with rfl | rfl
 ·simp [runW_fin, F_play_table_next_1, i_play_table_next_1, tabV, declsV, hlt, hd, hd2, hi4, b1, ks, e]
 ·simp [runW_fin, F_play_table_next_1, i_play_table_next_1, tabV, declsV, hlt, hd, hd2, hi4, b1, ks, e]
end Go.RR.PL
set_option linter.unusedVariables false
set_option linter.unusedSimpArgs false
set_option maxRecDepth 100000
set_option maxHeartbeats 8000000
namespace Go.RR.PL
open Go Go.RR Go.RR.M
/-- the game of a model -/
def domAt (m : Mod) (k : Nat) : List Sp := match (varsOf m.blocks)[k]? with
 | some d => d.dom
 | none => []
def gm (m : Mod) : Gm := ⟨(varsOf m.blocks).length, fun k => valS (domAt m k), overB m, yesB m⟩
/-- what may be played -/
structure MP (m : Mod) : Prop where
 ok : modOK m
 n : (varsOf m.blocks).length ≤ 16
 d : ∀ k (h : k < (varsOf m.blocks).length), spR none (varsOf m.blocks)[k].dom = true ∧ (varsOf m.blocks)[k].dom.length ≤ 150 ∧ (valS (varsOf m.blocks)[k].dom).length ≤ 64 ∧ 1 ≤ (valS (varsOf m.blocks)[k].dom).length
 s : ∀ k, k < (varsOf m.blocks).length → 0 ≤ stepAt m k
 n1 : 1 ≤ (varsOf m.blocks).length
 e : ∀ x ∈ endsOf 0 m.blocks, 1 ≤ x
theorem over_full {m : Mod} {row : List Int} (h : row.length = (varsOf m.blocks).length) : (overB m row).1 = true := by
 have hf : (fullB m row).1 = true := by unfold fullB; rw [if_pos (by omega)]
 unfold overB
 split
 ·split
  ·split
   ·exact hf
   ·rfl
  ·exact hf
 ·exact hf
abbrev vb (m : Mod) (r4 yes : Bool) (s : Lp) : List Ob := [.row 1 [.pin (tabV m) 0], .row 1 [.bool r4], .row 1 [.bool yes], .lp s]
theorem value_go (m : Mod) (row : List Int) (hr : row.length ≤ 1000) (yes : Bool) (f : Nat) (ih : ∀ v ∈ valS (domAt m row.length), ∀ h, acw C n_play_table_value [.pin (tabV m) 0, intsV (row ++ [v])] h = some (.ret (.bool (val (gm m) f (row ++ [v]))), h)) :
  ∀ (r : List Int) (k : Nat) (J : List Ob), (∀ v ∈ r, v ∈ valS (domAt m row.length)) → J.length + r.length ≤ 4000 → ∃ J', goY (rnd (evw C y0 ra_play_table_value_0) (evw C y0 rb_play_table_value_0) 3 [24, 25] [(2, .ptr 0 0 0 1), (4, .ptr 1 0 0 1), (7, .ptr 2 0 0 1), (23, nextV m row)]) 3 row r k (vb m false yes .rdy ++ J) =
   some (if (r.any fun v => val (gm m) f (row ++ [v]) == yes) = true then vb m yes yes (.fin .ret) ++ J' else vb m false yes .rdy ++ J')
 | [], k, J, _, _ => ⟨J, by simp [goY]⟩
 | v :: r, k, J, hr2, hJ => by
  have hv := ih v (hr2 v (by simp))
  simp only [List.length_cons] at hJ
  have hlen : (vb m false yes .rdy ++ J).length = J.length + 4 := by simp
  obtain ⟨H, hH⟩ : ∃ H : List Ob, H = vb m false yes .bsy ++ (J ++ [.row 1 (iL (row ++ [v]))]) := ⟨_, rfl⟩
  have hrow : H[J.length + 4]? = some (.row 1 (iL (row ++ [v]))) := by rw [hH]; simp
  have hfz : frz (H.take 4096) fdepth (.own (J.length + 4) 0 (row.length + 1) (row.length + 1)) = some (intsV (row ++ [v])) := frz_own_ints (by rw [List.getElem?_take_of_lt (by omega)]; exact hrow) (by simp) 10
  have kd : ∀ rr, dq false rr (crw C y0) n_play_table_value [.pin (tabV m) 0, .own (J.length + 4) 0 (row.length + 1) (row.length + 1)] H = some (.ret (.bool (val (gm m) f (row ++ [v]))), H) := fun rr => by
   refine dq_frz (a2 := [.pin (tabV m) 0, intsV (row ++ [v])]) ?_ (by simp [dataL]) rfl (hv []) rfl rfl rr
   show mapO (frz (H.take 4096) fdepth) _ = _
   simp only [mapO, hfz]
   rfl
  have hrnd : rnd (evw C y0 ra_play_table_value_0) (evw C y0 rb_play_table_value_0) 3 [24, 25] [(2, .ptr 0 0 0 1), (4, .ptr 1 0 0 1), (7, .ptr 2 0 0 1), (23, nextV m row)] [.mp 3, iv k, .own (J.length + 4) 0 (row.length + 1) (row.length + 1)] (vb m false yes .rdy ++ (J ++ [.row 1 (iL (row ++ [v]))])) =
    some (if (val (gm m) f (row ++ [v]) == yes) = true then (.ret (.bool false), vb m yes yes (.fin .ret) ++ (J ++ [.row 1 (iL (row ++ [v]))])) else (.ret (.bool true), vb m false yes .rdy ++ (J ++ [.row 1 (iL (row ++ [v]))]))) := by
   obtain ⟨b, hb⟩ : ∃ b, b = val (gm m) f (row ++ [v]) := ⟨_, rfl⟩
   rw [← hb] at kd ⊢
   obtain ⟨L, hL⟩ : ∃ L, L = J ++ [Ob.row 1 (iL (row ++ [v]))] := ⟨_, rfl⟩
   rw [← hL] at hH ⊢
   rw [hH] at kd
   simp only [vb, List.cons_append, List.nil_append] at kd
   cases b <;> cases yes <;> simp [ra_play_table_value_0, rb_play_table_value_0, kd]
  have hg : goY (rnd (evw C y0 ra_play_table_value_0) (evw C y0 rb_play_table_value_0) 3 [24, 25] [(2, .ptr 0 0 0 1), (4, .ptr 1 0 0 1), (7, .ptr 2 0 0 1), (23, nextV m row)]) 3 row (v :: r) k (vb m false yes .rdy ++ J) = match rnd (evw C y0 ra_play_table_value_0) (evw C y0 rb_play_table_value_0) 3 [24, 25] [(2, .ptr 0 0 0 1), (4, .ptr 1 0 0 1), (7, .ptr 2 0 0 1), (23, nextV m row)] [.mp 3, iv k, .own (J.length + 4) 0 (row.length + 1) (row.length + 1)] (vb m false yes .rdy ++ (J ++ [.row 1 (iL (row ++ [v]))])) with
    | some (.ret (.bool true), h') => goY (rnd (evw C y0 ra_play_table_value_0) (evw C y0 rb_play_table_value_0) 3 [24, 25] [(2, .ptr 0 0 0 1), (4, .ptr 1 0 0 1), (7, .ptr 2 0 0 1), (23, nextV m row)]) 3 row r (k + 1) h'
    | some (.ret (.bool false), h') => some h'
    | _ => none := by
   show (match rnd _ _ 3 _ _ [.mp 3, iv k, .own (vb m false yes .rdy ++ J).length 0 (row.length + 1) (row.length + 1)] ((vb m false yes .rdy ++ J) ++ [.row 1 (iL (row ++ [v]))]) with
    | some (.ret (.bool true), h') => goY _ 3 row r (k + 1) h'
    | some (.ret (.bool false), h') => some h'
    | _ => none) = _
   rw [hlen, List.append_assoc]
  rw [hg, hrnd]
  by_cases c : (val (gm m) f (row ++ [v]) == yes) = true
  ·rw [if_pos c]
   refine ⟨J ++ [.row 1 (iL (row ++ [v]))], ?_⟩
   simp only [List.any_cons, c, Bool.true_or, if_true]
  ·rw [if_neg c]
   obtain ⟨J', hJ'⟩ := value_go m row hr yes f ih r (k + 1) (J ++ [.row 1 (iL (row ++ [v]))]) (fun u hu => hr2 u (by simp [hu])) (by simp; omega)
   refine ⟨J', ?_⟩
   simp only [List.any_cons, c, Bool.false_or]
   exact hJ'
theorem MP.at {m : Mod} (hm : MP m) {k : Nat} (h : k < (varsOf m.blocks).length) : ∃ d, (varsOf m.blocks)[k]? = some d ∧ domAt m k = d.dom ∧ spR none d.dom = true ∧ d.dom.length ≤ 150 ∧ (valS d.dom).length ≤ 64 ∧ 1 ≤ (valS d.dom).length := by
 have e : (varsOf m.blocks)[k]? = some (varsOf m.blocks)[k] := List.getElem?_eq_getElem h
 obtain ⟨h1, h2, h3, h4⟩ := hm.d k h
 exact ⟨_, e, by simp [domAt, e], h1, h2, h3, h4⟩
theorem value (m : Mod) (hm : MP m) : ∀ (f : Nat) (row : List Int), row.length + f = (varsOf m.blocks).length → ∀ h, acw C n_play_table_value [.pin (tabV m) 0, intsV row] h = some (.ret (.bool (val (gm m) f row)), h) := by
 intro f
 induction f with
 | zero =>
  intro row hf h
  have hr : row.length ≤ 1000 := by have := hm.n; omega
  have ko := fun h => over m hm.ok row hr h
  have c := over_full (m := m) (row := row) (by omega)
  have hv : val (gm m) 0 row = (overB m row).2 := by unfold val; exact if_pos c
  rw [hv]
  rw [c] at ko
  refine acw_ex (v := .bool (overB m row).2) (CT T_play_table_value) rfl rfl (fun _ => rfl) (by simp) ⟨[.row 1 [.pin (tabV m) 0], .row 1 [.bool (overB m row).2]], ?_⟩
  obtain ⟨w, hw⟩ : ∃ w, w = (overB m row).2 := ⟨_, rfl⟩
  rw [← hw] at ko ⊢
  simp [runW_fin, F_play_table_value, i_play_table_value, ko]
 | succ f ih =>
  intro row hf h
  have hr : row.length ≤ 1000 := by have := hm.n; omega
  have ko := fun h => over m hm.ok row hr h
  by_cases c : (overB m row).1 = true
  ·have hv : val (gm m) (f + 1) row = (overB m row).2 := by unfold val; exact if_pos c
   rw [hv]
   rw [c] at ko
   refine acw_ex (v := .bool (overB m row).2) (CT T_play_table_value) rfl rfl (fun _ => rfl) (by simp) ⟨[.row 1 [.pin (tabV m) 0], .row 1 [.bool (overB m row).2]], ?_⟩
   obtain ⟨w, hw⟩ : ∃ w, w = (overB m row).2 := ⟨_, rfl⟩
   rw [← hw] at ko ⊢
   simp [runW_fin, F_play_table_value, i_play_table_value, ko]
  ·have c' : (overB m row).1 = false := by simpa using c
   rw [c'] at ko
   have hlt : row.length < (varsOf m.blocks).length := by omega
   obtain ⟨d, d1, d2, d3, d4, d5, d6⟩ := hm.at hlt
   have ky := fun h => yes m hm.ok row (hm.s _ hlt) h
   have kn := fun h => next m row h
   obtain ⟨y, hy⟩ : ∃ y, y = yesB m row.length := ⟨_, rfl⟩
   rw [← hy] at ky
   obtain ⟨J', hJ'⟩ := value_go m row hr y f (fun v hv h => ih _ (by simp; omega) h) (valS (domAt m row.length)) 0 [] (fun v hv => hv) (by rw [d2]; simp; omega)
   rw [d2, List.append_nil] at hJ'
   have kt := next_iter d1 (by omega) d3 hr _ _ _ _ hJ'
   have hv : val (gm m) (f + 1) row = if ((valS d.dom).any fun v => val (gm m) f (row ++ [v]) == y) = true then y else !y := by
    rw [val]
    have c2 : ((gm m).ov row).1 = false := c'
    have y2 : (gm m).yes row.length = y := hy.symm
    have n2 : (gm m).nums row.length = valS d.dom := by show valS (domAt m row.length) = _; rw [d2]
    rw [c2, y2, n2]
    cases y with
    | true =>
     simp only [Bool.false_eq_true, if_false, if_true, beq_true, Bool.not_true]
     cases ((valS d.dom).any fun v => val (gm m) f (row ++ [v])) <;> rfl
    | false =>
     simp only [Bool.false_eq_true, if_false, beq_false, Bool.not_false]
     rw [← List.not_all_eq_any_not]
     cases ((valS d.dom).all fun v => val (gm m) f (row ++ [v])) <;> rfl
   rw [hv]
   obtain ⟨w, hw⟩ : ∃ w, w = (overB m row).2 := ⟨_, rfl⟩
   rw [← hw] at ko
   by_cases e : ((valS d.dom).any fun v => val (gm m) f (row ++ [v]) == y) = true
   ·rw [if_pos e] at kt ⊢
    refine acw_ex (v := .bool y) (CT T_play_table_value) rfl rfl (fun _ => rfl) (by simp) ⟨[.row 1 [.pin (tabV m) 0], .row 1 [.bool y], .row 1 [.bool y], .dead] ++ J', ?_⟩
    simp only [vb, List.cons_append, List.nil_append] at kt
    simp [runW_fin, F_play_table_value, i_play_table_value, ko, ky, kn, nextV, kt, rfE_fin, Jp.x]
   ·rw [if_neg e] at kt ⊢
    refine acw_ex (v := .bool (!y)) (CT T_play_table_value) rfl rfl (fun _ => rfl) (by simp) ⟨[.row 1 [.pin (tabV m) 0], .row 1 [.bool (!y)], .row 1 [.bool y], .dead] ++ J', ?_⟩
    simp only [vb, List.cons_append, List.nil_append] at kt
    simp [runW_fin, F_play_table_value, i_play_table_value, ko, ky, kn, nextV, kt]
end Go.RR.PL
set_option linter.unusedVariables false
set_option linter.unusedSimpArgs false
set_option maxRecDepth 100000
set_option maxHeartbeats 8000000
namespace Go.RR.PL
open Go Go.RR Go.RR.M
theorem endsOf_gt : ∀ (bs : List Blk) (n : Int), (∀ b ∈ bs, 1 ≤ b.vars.length) → ∀ e ∈ endsOf n bs, n < e
 | [], _, _, e, h => by simp [endsOf] at h
 | b :: r, n, hb, e, h => by
  have h1 := hb b (by simp)
  simp only [endsOf, List.mem_cons] at h
  rcases h with rfl | h
  ·omega
  ·have := endsOf_gt r _ (fun b hb' => hb b (by simp [hb'])) e h
   omega
theorem endsOf_last : ∀ (bs : List Blk) (n : Int), bs ≠ [] → n + (varsOf bs).length ∈ endsOf n bs
 | [], _, h => absurd rfl h
 | [b], n, _ => by simp [endsOf, varsOf]
 | b :: c :: r, n, _ => by
  have := endsOf_last (c :: r) (n + b.vars.length) (by simp)
  rw [endsOf]
  have e : (varsOf (b :: c :: r)).length = b.vars.length + (varsOf (c :: r)).length := by simp [varsOf]
  rw [e]
  simp only [List.mem_cons]
  refine .inr ?_
  have e2 : n + ((b.vars.length + (varsOf (c :: r)).length : Nat) : Int) = n + b.vars.length + (varsOf (c :: r)).length := by omega
  rw [e2]
  exact this
theorem mp_of {m : Mod} (ok : modOK m) (hc : checkB m = 0) : MP m := by
 rw [checkB_zero] at hc
 obtain ⟨h1, h2, h3, h4, h5, h6⟩ := hc
 simp only [Bool.or_eq_false_iff, decide_eq_false_iff_not] at h2
 obtain ⟨h2, h2'⟩ := h2
 have hb : ∀ b ∈ m.blocks, 1 ≤ b.vars.length := fun b hb => by
  have := any_false h2' b hb
  simp only [decide_eq_false_iff_not] at this
  omega
 have hne : m.blocks ≠ [] := by intro e; rw [e] at h2; simp at h2
 have hl := endsOf_last m.blocks 0 hne
 refine ⟨ok, ?_, fun k hk => ?_, fun k hk => ?_, ?_, fun x hx => ?_⟩
 ·unfold bigB at h1
  simp only [Bool.or_eq_false_iff, decide_eq_false_iff_not] at h1
  omega
 ·have hd : declOK (varsOf m.blocks)[k] := by
   obtain ⟨b, hb, hd⟩ := List.mem_flatMap.1 (List.getElem_mem hk)
   exact (ok.2.2.2 b hb).2.2.2 _ hd
  have ha := any_false h5 _ (List.getElem_mem hk)
  unfold argB at ha
  simp only [Bool.or_eq_false_iff, decide_eq_false_iff_not] at ha
  have hr : spR none (varsOf m.blocks)[k].dom = true := by
   cases e : spR none (varsOf m.blocks)[k].dom with
   | true => rfl
   | false => simp [spN, e] at ha
  have hN : spN (varsOf m.blocks)[k].dom = (valS (varsOf m.blocks)[k].dom).length := by unfold spN; rw [if_pos hr, valS_len (spR_all hr)]
  exact ⟨hr, hd.2, by omega, by omega⟩
 ·have e := idx_any (fun e => decide ((k : Int) < e)) (endsOf 0 m.blocks)
  have : ((endsOf 0 m.blocks).any fun e => decide ((k : Int) < e)) = true := List.any_eq_true.2 ⟨_, hl, by simp only [decide_eq_true_eq]; omega⟩
  rw [this] at e
  exact of_decide_eq_true e
 ·have := endsOf_gt m.blocks 0 hb _ hl
  omega
 ·have := endsOf_gt m.blocks 0 hb _ hx
  omega
theorem MP.blk {m : Mod} (hc : checkB m = 0) : ∀ b ∈ m.blocks, 1 ≤ b.vars.length := fun b hb => by
 rw [checkB_zero] at hc
 obtain ⟨h1, h2, h3, h4, h5, h6⟩ := hc
 simp only [Bool.or_eq_false_iff, decide_eq_false_iff_not] at h2
 have := any_false h2.2 b hb
 simp only [decide_eq_false_iff_not] at this
 omega
end Go.RR.PL
set_option linter.unusedVariables false
set_option linter.unusedSimpArgs false
set_option maxRecDepth 100000
set_option maxHeartbeats 8000000
namespace Go.RR.PL
open Go Go.RR Go.RR.M
end Go.RR.PL
set_option linter.unusedVariables false
set_option linter.unusedSimpArgs false
set_option maxRecDepth 100000
set_option maxHeartbeats 8000000
namespace Go.RR.PL
open Go Go.RR Go.RR.M
end Go.RR.PL
set_option linter.unusedVariables false
set_option linter.unusedSimpArgs false
set_option maxRecDepth 100000
set_option maxHeartbeats 8000000
namespace Go.RR.PL
open Go Go.RR Go.RR.M
end Go.RR.PL
set_option linter.unusedVariables false
set_option linter.unusedSimpArgs false
set_option maxRecDepth 100000
set_option maxHeartbeats 8000000
namespace Go.RR.PL
open Go Go.RR Go.RR.M
theorem plays_loop (m : Mod) (hm : modOK m) : ∀ (k i : Nat) (n : Int) (h : List Ob), i + k = (varsOf m.blocks).length → h[0]? = some (.row 2 [modV m]) →
  ∃ x n' fr h', evw C y0 i_ref20_Plays_l0 [(1, .ptr 0 0 0 1), (3, iv n), (4, iv i)] h = some (x, fr, h') ∧ ((x = .ret ∧ fr = [(2, iv n')]) ∨ (x = .ext 0 ∧ fr = [(1, .ptr 0 0 0 1), (3, iv n'), (4, iv (varsOf m.blocks).length), (12, .bool false)])) := by
 have k1 := fun h => ref_vars m hm h
 have hlen := varsLen m hm
 intro k
 induction k with
 | zero =>
  intro i n h hi h0
  have : i = (varsOf m.blocks).length := by omega
  subst this
  rw [r_ref20_Plays_0]
  refine ⟨.ext 0, n, _, h, ?_, .inr ⟨rfl, rfl⟩⟩
  simp [b_ref20_Plays_0, k1, h0]
 | succ k ih =>
  intro i n h hi h0
  have hlt : i < (varsOf m.blocks).length := by omega
  obtain ⟨d, hd⟩ : ∃ d, d = (varsOf m.blocks)[i] := ⟨_, rfl⟩
  have hd1 : (varsOf m.blocks)[i]? = some d := by simp [hlt, hd]
  have hd2 : ∀ h : i < (varsOf m.blocks).length, (varsOf m.blocks)[i]'h = d := fun _ => hd.symm
  have hdo : declOK d := by
   rw [hd]
   obtain ⟨b, hb, hd⟩ := List.mem_flatMap.1 (List.getElem_mem hlt)
   exact (hm.2.2.2 b hb).2.2.2 _ hd
  have ks := fun h => ref03_Size d.dom (by have := hdo.2; omega) h
  have hi4 : (i : Int) < (varsOf m.blocks).length := by omega
  have hwr := wrap_succ hlt (by omega)
  have b1 : declV d = .agg [.str d.name, spsV d.dom] := rfl
  obtain ⟨q, hq⟩ : ∃ q, q = IntKind.i64.wrap (n * spN d.dom) := ⟨_, rfl⟩
  by_cases c : 1000000 < q
  ·refine ⟨.ret, 1000000, _, h, ?_, .inl ⟨rfl, rfl⟩⟩
   rw [r_ref20_Plays_0]
   simp [b_ref20_Plays_0, k1, h0, hlt, hd1, hd2, hi4, b1, ks, ← hq, c]
  ·obtain ⟨x, n', fr, h', ih1, ih2⟩ := ih (i + 1) q h (by omega) h0
   simp only [Int.natCast_add, Int.cast_ofNat_Int] at ih1
   refine ⟨x, n', fr, h', ?_, ih2⟩
   rw [← ih1, r_ref20_Plays_0]
   simp [b_ref20_Plays_0, k1, h0, hlt, hd1, hd2, hi4, b1, ks, ← hq, c, hwr]
theorem plays (m : Mod) (hm : modOK m) : ∃ n, ∀ h, acw C n_ref20_Plays [modV m] h = some (.ret (iv n), h) := by
 have kc := fun h => ref_check m hm h
 by_cases c : checkB m = 0
 ·obtain ⟨x, n', fr, h', e1, e2⟩ := plays_loop m hm (varsOf m.blocks).length 0 1 [.row 2 [modV m]] (by omega) rfl
  simp only [Int.cast_ofNat_Int] at e1
  refine ⟨n', fun h => ?_⟩
  refine acw_ex (v := iv n') (CT T_ref20_Plays) rfl rfl (fun _ => rfl) (by simp) ⟨h', ?_⟩
  rcases e2 with ⟨rfl, rfl⟩ | ⟨rfl, rfl⟩
  ·simp [runW_fin, F_ref20_Plays, i_ref20_Plays, kc, c, e1]
  ·simp [runW_fin, F_ref20_Plays, i_ref20_Plays, kc, c, e1]
 ·refine ⟨0, fun h => ?_⟩
  refine acw_ex (v := iv 0) (CT T_ref20_Plays) rfl rfl (fun _ => rfl) (by simp) ⟨[.row 2 [modV m]], ?_⟩
  have c2 : (checkB m != 0) = true := by rw [bne_iff_ne]; exact c
  simp [runW_fin, F_ref20_Plays, i_ref20_Plays, kc, c2]
theorem Large (m : Mod) : ∃ b, (∀ h, acw C n_law20_Large [modV m] h = some (.ret (.bool b), h)) ∧ (b = false → modOK m) := by
 have kl := fun h => large m h
 by_cases c : largeB m = true
 ·refine ⟨true, fun h => ?_, fun e => by cases e⟩
  refine acw_ex (v := .bool true) (CT T_law20_Large) rfl rfl (fun _ => rfl) (by simp) ⟨[.row 2 [modV m]], ?_⟩
  simp [runW_fin, F_law20_Large, i_law20_Large, kl, c]
 ·have c' : largeB m = false := by simpa using c
  have hm := largeB_ok c'
  have kc := fun h => ref_check m hm h
  obtain ⟨n, kp⟩ := plays m hm
  by_cases d : checkB m = 0
  ·refine ⟨decide (3000 < n), fun h => ?_, fun _ => hm⟩
   refine acw_ex (v := .bool _) (CT T_law20_Large) rfl rfl (fun _ => rfl) (by simp) ⟨[.row 2 [modV m]], ?_⟩
   simp [runW_fin, F_law20_Large, i_law20_Large, kl, c', kc, d, kp]
  ·refine ⟨false, fun h => ?_, fun _ => hm⟩
   refine acw_ex (v := .bool _) (CT T_law20_Large) rfl rfl (fun _ => rfl) (by simp) ⟨[.row 2 [modV m]], ?_⟩
   have d2 : (checkB m == 0) = false := by simpa using d
   simp [runW_fin, F_law20_Large, i_law20_Large, kl, c', kc, d2]
/-- a model's value -/
def valueB (m : Mod) : Bool := decide (checkB m = 0) && val (gm m) (varsOf m.blocks).length []
theorem Value (m : Mod) (hm : modOK m) (h : List Ob) : acw C n_play_Value [modV m] h = some (.ret (.bool (valueB m)), h) := by
 have kc := fun h => check m hm h
 unfold valueB
 by_cases c : checkB m = 0
 ·have hp := mp_of hm c
  have kl := fun h => lay m hm h
  have kv : acw C n_play_table_value [.ptr 2 0 0 1, .nsl 1] [.row 2 [modV m], .row 2 [modV m], .row 4 [tabV m]] = some (.ret (.bool (val (gm m) (varsOf m.blocks).length [])), [.row 2 [modV m], .row 2 [modV m], .row 4 [tabV m]]) :=
   acw_of_frz (a2 := [.pin (tabV m) 0, intsV []]) (CT T_play_table_value) rfl rfl rfl (value m hp _ [] (by simp) []) rfl
  refine acw_ex (v := .bool _) (CT T_play_Value) rfl rfl (fun _ => rfl) (by simp) ⟨[.row 2 [modV m], .row 2 [modV m], .row 4 [tabV m]], ?_⟩
  simp [runW_fin, F_play_Value, i_play_Value, kc, c, kl, kv]
 ·refine acw_ex (v := .bool _) (CT T_play_Value) rfl rfl (fun _ => rfl) (by simp) ⟨[.row 2 [modV m]], ?_⟩
  have c2 : (checkB m == 0) = false := by simpa using c
  simp [runW_fin, F_play_Value, i_play_Value, kc, c2, c]
end Go.RR.PL
set_option linter.unusedVariables false
set_option linter.unusedSimpArgs false
set_option maxRecDepth 100000
set_option maxHeartbeats 8000000
namespace Go.RR.PL
open Go Go.RR Go.RR.M
abbrev oh (m : Mod) : List Ob := [.row 2 [modV m], .row 2 [modV m], .row 4 [tabV m]]
end Go.RR.PL
set_option linter.unusedVariables false
set_option linter.unusedSimpArgs false
set_option maxRecDepth 100000
set_option maxHeartbeats 8000000
namespace Go.RR.PL
open Go Go.RR Go.RR.M
abbrev wb (m : Mod) (t : List Nd) (y r : Bool) (n : Nd) (mine : Bool) (s : Lp) : List Ob := [.row 1 [.pin (tabV m) 0], .row 1 [treeV t], .row 1 [.bool y], .row 1 [.bool r], .row 3 [nodeV n], .row 1 [.bool mine], .lp s]
abbrev wfr (m : Mod) (row : List Int) : Fr := [(5, .ptr 0 0 0 1), (6, .ptr 1 0 0 1), (8, .ptr 2 0 0 1), (10, .ptr 3 0 0 1), (13, .ptr 4 0 0 1), (15, .ptr 5 0 0 1), (77, nextV m row)]
noncomputable abbrev wrn (m : Mod) (row : List Int) := rnd (evw C y0 ra_play_table_wins_0) (evw C y0 rb_play_table_wins_0) 6 [78, 79] (wfr m row)
theorem goY_cons {Y : Yl} {y : Nat} {row : List Int} {v : Int} {r : List Int} {k : Nat} {h : List Ob} : goY Y y row (v :: r) k h = match Y [.mp y, iv k, .own h.length 0 (row.length + 1) (row.length + 1)] (h ++ [.row 1 (iL (row ++ [v]))]) with
  | some (.ret (.bool true), h') => goY Y y row r (k + 1) h'
  | some (.ret (.bool false), h') => some h'
  | _ => none := rfl
variable {m : Mod} {t : List Nd} {y : Bool} {n : Nd} {row : List Int}
theorem wins_call {H J : List Ob} {s : Lp} {b : Bool} {mine : Bool} {v c : Int} (hJ : J.length ≤ 4000) (hH : H = wb m t y false n mine s ++ (J ++ [.row 1 (iL (row ++ [v]))])) (hv : ∀ h, acw C n_play_table_wins [.pin (tabV m) 0, treeV t, iv c, .bool y, intsV (row ++ [v])] h = some (.ret (.bool b), h)) :
  ∀ rr, dq false rr (crw C y0) n_play_table_wins [.pin (tabV m) 0, treeV t, iv c, .bool y, .own (J.length + 7) 0 (row.length + 1) (row.length + 1)] H = some (.ret (.bool b), H) := fun rr => by
 have hrow : H[J.length + 7]? = some (.row 1 (iL (row ++ [v]))) := by rw [hH]; simp
 have hfz : frz (H.take 4096) fdepth (.own (J.length + 7) 0 (row.length + 1) (row.length + 1)) = some (intsV (row ++ [v])) := frz_own_ints (by rw [List.getElem?_take_of_lt (by omega)]; exact hrow) (by simp) 10
 refine dq_frz (a2 := [.pin (tabV m) 0, treeV t, iv c, .bool y, intsV (row ++ [v])]) ?_ (by simp [dataL]) rfl (hv []) rfl rfl rr
 show mapO (frz (H.take 4096) fdepth) _ = _
 simp only [mapO, hfz]
 rfl
theorem wins_mine (p : Nat) (hp : n.pick = p) (k0 : Int) (hk0 : n.kids = [k0]) (w : Int) (b : Bool) (ih : ∀ h, acw C n_play_table_wins [.pin (tabV m) 0, treeV t, iv k0, .bool y, intsV (row ++ [w])] h = some (.ret (.bool b), h)) :
  ∀ (r : List Int) (k : Nat) (J : List Ob), k ≤ p → r[p - k]? = some w → J.length + r.length ≤ 3900 → ∃ J', goY (wrn m row) 6 row r k (wb m t y false n true .rdy ++ J) = some (wb m t y b n true (.fin .ret) ++ J')
 | [], k, J, _, h, _ => by simp at h
 | v :: r, k, J, hk, hw, hJ => by
  simp only [List.length_cons] at hJ
  have hlen : (wb m t y false n true .rdy ++ J).length = J.length + 7 := by simp
  rw [goY_cons, hlen, List.append_assoc]
  have hn : nodeV n = .agg [iv n.kind, iv p, intsV [k0]] := by unfold nodeV; rw [hp, hk0]
  by_cases c : k = p
  ·subst c
   have hvw : v = w := by simpa using hw
   subst hvw
   have kd := wins_call (n := n) (J := J) (s := .bsy) (mine := true) (by omega) rfl ih
   have hrnd : wrn m row [.mp 6, iv k, .own (J.length + 7) 0 (row.length + 1) (row.length + 1)] (wb m t y false n true .rdy ++ (J ++ [.row 1 (iL (row ++ [v]))])) = some (.ret (.bool false), wb m t y b n true (.fin .ret) ++ (J ++ [.row 1 (iL (row ++ [v]))])) := by
    obtain ⟨L, hL⟩ : ∃ L, L = J ++ [Ob.row 1 (iL (row ++ [v]))] := ⟨_, rfl⟩
    rw [← hL] at kd ⊢
    simp only [wb, List.cons_append, List.nil_append, hn] at kd ⊢
    simp [ra_play_table_wins_0, rb_play_table_wins_0, kd]
   rw [hrnd]
   exact ⟨J ++ [.row 1 (iL (row ++ [v]))], rfl⟩
  ·have hrnd : wrn m row [.mp 6, iv k, .own (J.length + 7) 0 (row.length + 1) (row.length + 1)] (wb m t y false n true .rdy ++ (J ++ [.row 1 (iL (row ++ [v]))])) = some (.ret (.bool true), wb m t y false n true .rdy ++ (J ++ [.row 1 (iL (row ++ [v]))])) := by
    obtain ⟨L, hL⟩ : ∃ L, L = J ++ [Ob.row 1 (iL (row ++ [v]))] := ⟨_, rfl⟩
    rw [← hL]
    have c2 : ((k : Int) != p) = true := by rw [bne_iff_ne]; omega
    simp only [wb, List.cons_append, List.nil_append, hn]
    simp [ra_play_table_wins_0, rb_play_table_wins_0, c2]
   rw [hrnd]
   have e : p - k = (p - (k + 1)) + 1 := by omega
   rw [e, List.getElem?_cons_succ] at hw
   exact wins_mine p hp k0 hk0 w b ih r (k + 1) (J ++ [.row 1 (iL (row ++ [v]))]) (by omega) hw (by simp; omega)
theorem wins_all (q : Int → Int → Bool) (ih : ∀ c ∈ n.kids, ∀ v, ∀ h, acw C n_play_table_wins [.pin (tabV m) 0, treeV t, iv c, .bool y, intsV (row ++ [v])] h = some (.ret (.bool (q c v)), h)) :
  ∀ (r : List Int) (k : Nat) (J : List Ob), k + r.length = n.kids.length → J.length + r.length ≤ 3900 → ∃ J', goY (wrn m row) 6 row r k (wb m t y false n false .rdy ++ J) = some (if (((n.kids.drop k).zip r).all fun z => q z.1 z.2) = true then wb m t y false n false .rdy ++ J' else wb m t y false n false (.fin .ret) ++ J')
 | [], k, J, _, _ => ⟨J, by simp [goY]⟩
 | v :: r, k, J, hk, hJ => by
  simp only [List.length_cons] at hJ hk
  have hlen : (wb m t y false n false .rdy ++ J).length = J.length + 7 := by simp
  have hlt : k < n.kids.length := by omega
  obtain ⟨c, hc⟩ : ∃ c, c = n.kids[k] := ⟨_, rfl⟩
  have ihc := ih c (by rw [hc]; exact List.getElem_mem hlt) v
  have hc1 : n.kids[k]? = some c := by simp [hlt, hc]
  have hc2 : ∀ h : k < n.kids.length, n.kids[k]'h = c := fun _ => hc.symm
  have hi4 : (k : Int) < n.kids.length := by omega
  have e0 : (((n.kids.drop k).zip (v :: r)).all fun z => q z.1 z.2) = (q c v && ((n.kids.drop (k + 1)).zip r).all fun z => q z.1 z.2) := by
   rw [List.drop_eq_getElem_cons hlt, ← hc, List.zip_cons_cons, List.all_cons]
  rw [goY_cons, hlen, List.append_assoc, e0]
  have kd := wins_call (n := n) (J := J) (s := .bsy) (mine := false) (by omega) rfl ihc
  obtain ⟨b, hb⟩ : ∃ b, b = q c v := ⟨_, rfl⟩
  rw [← hb] at kd ⊢
  have hn : nodeV n = .agg [iv n.kind, iv n.pick, intsV n.kids] := rfl
  cases b with
  | true =>
   have hrnd : wrn m row [.mp 6, iv k, .own (J.length + 7) 0 (row.length + 1) (row.length + 1)] (wb m t y false n false .rdy ++ (J ++ [.row 1 (iL (row ++ [v]))])) = some (.ret (.bool true), wb m t y false n false .rdy ++ (J ++ [.row 1 (iL (row ++ [v]))])) := by
    obtain ⟨L, hL⟩ : ∃ L, L = J ++ [Ob.row 1 (iL (row ++ [v]))] := ⟨_, rfl⟩
    rw [← hL] at kd ⊢
    simp only [wb, List.cons_append, List.nil_append, hn] at kd ⊢
    simp [ra_play_table_wins_0, rb_play_table_wins_0, kd, hlt, hc1, hc2, hi4]
   rw [hrnd, Bool.true_and]
   exact wins_all q ih r (k + 1) (J ++ [.row 1 (iL (row ++ [v]))]) (by omega) (by simp; omega)
  | false =>
   have hrnd : wrn m row [.mp 6, iv k, .own (J.length + 7) 0 (row.length + 1) (row.length + 1)] (wb m t y false n false .rdy ++ (J ++ [.row 1 (iL (row ++ [v]))])) = some (.ret (.bool false), wb m t y false n false (.fin .ret) ++ (J ++ [.row 1 (iL (row ++ [v]))])) := by
    obtain ⟨L, hL⟩ : ∃ L, L = J ++ [Ob.row 1 (iL (row ++ [v]))] := ⟨_, rfl⟩
    rw [← hL] at kd ⊢
    simp only [wb, List.cons_append, List.nil_append, hn] at kd ⊢
    simp [ra_play_table_wins_0, rb_play_table_wins_0, kd, hlt, hc1, hc2, hi4]
   rw [hrnd, Bool.false_and]
   exact ⟨J ++ [.row 1 (iL (row ++ [v]))], rfl⟩
end Go.RR.PL
set_option linter.unusedVariables false
set_option linter.unusedSimpArgs false
set_option maxRecDepth 100000
set_option maxHeartbeats 8000000
namespace Go.RR.PL
open Go Go.RR Go.RR.M
theorem win_mine {g : Gm} {y : Bool} {f : Nat} {k p : Int} {cs : List UT} {row : List Int} (h1 : (g.ov row).1 = false) (h2 : g.yes row.length = y) : win g y (f + 1) (.nd k p cs) row = (decide (k = 1) && decide (0 ≤ p) && decide (p < (g.nums row.length).length) && (match cs with
    | c :: _ => win g y f c (row ++ [(g.nums row.length).getD p.toNat 0])
    | [] => false)) := by
 conv => lhs; unfold win
 rw [h1, if_neg (by simp), if_pos h2]
 all_goals (cases cs <;> rfl)
theorem win_all {g : Gm} {y : Bool} {f : Nat} {k p : Int} {cs : List UT} {row : List Int} (h1 : (g.ov row).1 = false) (h2 : ¬ g.yes row.length = y) : win g y (f + 1) (.nd k p cs) row = (decide (k = 2) && decide (cs.length = (g.nums row.length).length) && (cs.zip (g.nums row.length)).all fun q => win g y f q.1 (row ++ [q.2])) := by
 conv => lhs; unfold win
 rw [h1, if_neg (by simp), if_neg h2]
theorem win_over {g : Gm} {y : Bool} {f : Nat} {u : UT} {row : List Int} (h1 : (g.ov row).1 = true) : win g y f u row = ((g.ov row).2 == y) := by
 cases u
 cases f <;> (unfold win; rw [if_pos h1])
theorem zip_map_all (q : Int → Int → Bool) (u : Int → UT) (w : UT → Int → Bool) (hq : ∀ c v, q c v = w (u c) v) : ∀ (l : List Int) (m : List Int), ((l.map u).zip m).all (fun z => w z.1 z.2) = (l.zip m).all fun z => q z.1 z.2
 | [], _ => by simp
 | _ :: _, [] => by simp
 | a :: l, b :: m => by simp only [List.map_cons, List.zip_cons_cons, List.all_cons, zip_map_all q u w hq l m, hq]
theorem wins (m : Mod) (hm : MP m) (t : List Nd) (ht : mayT t = true) (y : Bool) : ∀ (f i : Nat) (row : List Int), i < t.length → row.length + f = (varsOf m.blocks).length → ∀ h, acw C n_play_table_wins [.pin (tabV m) 0, treeV t, iv i, .bool y, intsV row] h = some (.ret (.bool (win (gm m) y f (unf t i) row)), h) := by
 intro f
 induction f with
 | zero =>
  intro i row hi hf h
  have hr : row.length ≤ 1000 := by have := hm.n; omega
  have ko := fun h => over m hm.ok row hr h
  have c := over_full (m := m) (row := row) (by omega)
  rw [win_over (g := gm m) c]
  rw [c] at ko
  have e : ((gm m).ov row).2 = (overB m row).2 := rfl
  rw [e]
  obtain ⟨w, hw⟩ : ∃ w, w = (overB m row).2 := ⟨_, rfl⟩
  rw [← hw] at ko ⊢
  refine acw_ex (v := .bool (w == y)) (CT T_play_table_wins) rfl rfl (fun _ => rfl) (by simp) ⟨[.row 1 [.pin (tabV m) 0], .row 1 [treeV t], .row 1 [.bool y], .row 1 [.bool (w == y)]], ?_⟩
  cases w <;> cases y <;> simp [runW_fin, F_play_table_wins, i_play_table_wins, ko]
 | succ f ih =>
  intro i row hi hf h
  have hr : row.length ≤ 1000 := by have := hm.n; omega
  have ko := fun h => over m hm.ok row hr h
  by_cases c : (overB m row).1 = true
  ·rw [win_over (g := gm m) c]
   rw [c] at ko
   have e : ((gm m).ov row).2 = (overB m row).2 := rfl
   rw [e]
   obtain ⟨w, hw⟩ : ∃ w, w = (overB m row).2 := ⟨_, rfl⟩
   rw [← hw] at ko ⊢
   refine acw_ex (v := .bool (w == y)) (CT T_play_table_wins) rfl rfl (fun _ => rfl) (by simp) ⟨[.row 1 [.pin (tabV m) 0], .row 1 [treeV t], .row 1 [.bool y], .row 1 [.bool (w == y)]], ?_⟩
   cases w <;> cases y <;> simp [runW_fin, F_play_table_wins, i_play_table_wins, ko]
  ·have c' : (overB m row).1 = false := by simpa using c
   rw [c'] at ko
   have hlt : row.length < (varsOf m.blocks).length := by omega
   obtain ⟨d, d1, d2, d3, d4, d5, d6⟩ := hm.at hlt
   have ky := fun h => yes m hm.ok row (hm.s _ hlt) h
   have kn := fun h => next m row h
   have ks := fun h => spans_Size d.dom (by omega) h
   have hN : spN d.dom = (valS d.dom).length := by unfold spN; rw [if_pos d3, valS_len (spR_all d3)]
   rw [hN] at ks
   have hd2 : ∀ h : row.length < (varsOf m.blocks).length, (varsOf m.blocks)[row.length]'h = d := fun _ => (List.getElem?_eq_some_iff.1 d1).2
   have hi4 : (row.length : Int) < (varsOf m.blocks).length := by omega
   have b1 : declV d = .agg [.str d.name, spsV d.dom] := rfl
   obtain ⟨w, hw⟩ : ∃ w, w = (overB m row).2 := ⟨_, rfl⟩
   rw [← hw] at ko
   have hfit := mayT_fits ht i hi
   have hahd := mayT_ahd ht i hi
   rw [unf_eq (mayT_ahd ht) hi]
   obtain ⟨n, hn⟩ : ∃ n, n = t[i] := ⟨_, rfl⟩
   rw [← hn] at hfit hahd ⊢
   have hn1 : t[i]? = some n := by simp [hi, hn]
   have hn2 : ∀ h : i < t.length, t[i]'h = n := fun _ => hn.symm
   have hi5 : (i : Int) < t.length := by omega
   have e1 : nodeV n = .agg [iv n.kind, iv n.pick, intsV n.kids] := rfl
   have nn : (gm m).nums row.length = valS d.dom := by show valS (domAt m row.length) = _; rw [d2]
   have c2 : ((gm m).ov row).1 = false := c'
   obtain ⟨z, hz⟩ : ∃ z, z = yesB m row.length := ⟨_, rfl⟩
   have yy : (gm m).yes row.length = z := hz.symm
   rw [← hz] at ky
   have ihk : ∀ k ∈ n.kids, ∀ v h, acw C n_play_table_wins [.pin (tabV m) 0, treeV t, iv k, .bool y, intsV (row ++ [v])] h = some (.ret (.bool (win (gm m) y f (unf t k.toNat) (row ++ [v]))), h) := fun k hk v h => by
    have := hahd k hk
    have := ih k.toNat (row ++ [v]) (by omega) (by simp; omega) h
    rw [Int.toNat_of_nonneg (by omega)] at this
    exact this
   have hdl := d4
   simp only [tabV] at ko ky kn
   by_cases dm : z = y
   ·subst dm
    rw [win_mine c2 yy, nn]
    by_cases k1 : n.kind = 1
    ·have hp : 0 ≤ n.pick ∧ n.kids.length = 1 := by
      simp only [fitsN, Bool.or_eq_true, Bool.and_eq_true, decide_eq_true_eq] at hfit
      omega
     by_cases k2 : n.pick < (valS d.dom).length
     ·obtain ⟨k0, hk0⟩ : ∃ k0, n.kids = [k0] := by
       match h : n.kids, hp.2 with
       | [k0], _ => exact ⟨k0, rfl⟩
      obtain ⟨p, hp2⟩ : ∃ p : Nat, n.pick = p := ⟨n.pick.toNat, by omega⟩
      have hplt : p < (valS d.dom).length := by omega
      obtain ⟨v, hv⟩ : ∃ v, v = (valS d.dom)[p] := ⟨_, rfl⟩
      have hgd : (valS d.dom).getD n.pick.toNat 0 = v := by rw [hp2, Int.toNat_natCast, List.getD_eq_getElem?_getD, List.getElem?_eq_getElem hplt, hv]; rfl
      rw [hgd, hk0]
      simp only [k1, hp.1, k2, List.map_cons, List.map_nil, decide_true, Bool.true_and]
      obtain ⟨b, hb⟩ : ∃ b, b = win (gm m) z f (unf t k0.toNat) (row ++ [v]) := ⟨_, rfl⟩
      have ihv := ihk k0 (by rw [hk0]; simp) v
      rw [← hb] at ihv ⊢
      obtain ⟨J', hJ'⟩ := wins_mine p hp2 k0 hk0 v b ihv (valS d.dom) 0 [] (by omega) (by rw [Nat.sub_zero, List.getElem?_eq_getElem hplt, hv]) (by simp; omega)
      rw [List.append_nil] at hJ'
      have kt := next_iter d1 (by omega) d3 hr _ _ _ _ hJ'
      refine acw_ex (v := .bool b) (CT T_play_table_wins) rfl rfl (fun _ => rfl) (by simp) ⟨[.row 1 [.pin (tabV m) 0], .row 1 [treeV t], .row 1 [.bool z], .row 1 [.bool b], .row 3 [nodeV n], .row 1 [.bool true], .dead] ++ J', ?_⟩
      have e2 : nodeV n = .agg [iv 1, iv p, intsV [k0]] := by rw [e1, k1, hp2, hk0]
      have k3 : ¬ ((valS d.dom).length : Int) ≤ p := by omega
      simp only [wb, List.cons_append, List.nil_append, wrn, wfr, e2] at kt
      rw [hp2] at k2
      simp [runW_fin, F_play_table_wins, i_play_table_wins, ko, ky, kn, ks, hd2, d1, hlt, hi4, b1, tabV, hn1, hn2, hi, hi5, e2, nextV, k3, hplt] at kt ⊢
      simp [kt, rfE_fin, Jp.x]
     ·have k3 : ((valS d.dom).length : Int) ≤ n.pick := by omega
      simp only [k2, decide_false, Bool.false_and, Bool.and_false]
      refine acw_ex (v := .bool false) (CT T_play_table_wins) rfl rfl (fun _ => rfl) (by simp) ⟨[.row 1 [.pin (tabV m) 0], .row 1 [treeV t], .row 1 [.bool z], .row 1 [.bool false], .row 3 [nodeV n], .row 1 [.bool true]], ?_⟩
      simp [runW_fin, F_play_table_wins, i_play_table_wins, ko, ky, kn, ks, hd2, d1, hlt, hi4, b1, tabV, hn1, hn2, hi, hi5, e1, k1, k3]
    ·simp only [k1, decide_false, Bool.false_and]
     have k2 : (n.kind != 1) = true := by rw [bne_iff_ne]; exact k1
     refine acw_ex (v := .bool false) (CT T_play_table_wins) rfl rfl (fun _ => rfl) (by simp) ⟨[.row 1 [.pin (tabV m) 0], .row 1 [treeV t], .row 1 [.bool z], .row 1 [.bool false], .row 3 [nodeV n], .row 1 [.bool true]], ?_⟩
     simp [runW_fin, F_play_table_wins, i_play_table_wins, ko, ky, kn, ks, hd2, d1, hlt, hi4, b1, tabV, hn1, hn2, hi, hi5, e1, k2]
   ·rw [win_all c2 (by rw [yy]; exact dm), nn]
    have dm2 : (z == y) = false := by simpa using dm
    by_cases k1 : n.kind = 2
    ·by_cases k2 : n.kids.length = (valS d.dom).length
     ·rw [List.length_map]
      simp only [k1, k2, decide_true, Bool.true_and]
      rw [zip_map_all (fun k v => win (gm m) y f (unf t k.toNat) (row ++ [v])) (fun k => unf t k.toNat) (fun u v => win (gm m) y f u (row ++ [v])) (fun _ _ => rfl)]
      obtain ⟨J', hJ'⟩ := wins_all (fun k v => win (gm m) y f (unf t k.toNat) (row ++ [v])) (fun k hk v h => ihk k hk v h) (valS d.dom) 0 [] (by omega) (by simp; omega)
      rw [List.append_nil, List.drop_zero] at hJ'
      obtain ⟨b, hb⟩ : ∃ b, b = ((n.kids.zip (valS d.dom)).all fun z => win (gm m) y f (unf t z.1.toNat) (row ++ [z.2])) := ⟨_, rfl⟩
      have hJ2 : goY (wrn m row) 6 row (valS d.dom) 0 (wb m t y false n false .rdy) = some (if b = true then wb m t y false n false .rdy ++ J' else wb m t y false n false (.fin .ret) ++ J') := by rw [hb]; exact hJ'
      rw [← hb]
      have kt := next_iter d1 (by omega) d3 hr _ _ _ _ hJ2
      refine acw_ex (v := .bool b) (CT T_play_table_wins) rfl rfl (fun _ => rfl) (by simp) ⟨[.row 1 [.pin (tabV m) 0], .row 1 [treeV t], .row 1 [.bool y], .row 1 [.bool b], .row 3 [nodeV n], .row 1 [.bool false], .dead] ++ J', ?_⟩
      have k3 : ((n.kids.length : Int) != (valS d.dom).length) = false := by rw [k2]; simp
      have e2 : nodeV n = .agg [iv 2, iv n.pick, intsV n.kids] := by rw [e1, k1]
      cases b with
      | true =>
       simp only [if_true, wb, List.cons_append, List.nil_append, wrn, wfr, e2] at kt
       cases z <;> cases y <;> first | (exact absurd rfl dm) | (simp [runW_fin, F_play_table_wins, i_play_table_wins, ko, ky, kn, ks, hd2, d1, hlt, hi4, b1, tabV, hn1, hn2, hi, hi5, e2, nextV, k2] at kt ⊢; simp [kt])
      | false =>
       simp only [Bool.false_eq_true, if_false, wb, List.cons_append, List.nil_append, wrn, wfr, e2] at kt
       cases z <;> cases y <;> first | (exact absurd rfl dm) | (simp [runW_fin, F_play_table_wins, i_play_table_wins, ko, ky, kn, ks, hd2, d1, hlt, hi4, b1, tabV, hn1, hn2, hi, hi5, e2, nextV, k2] at kt ⊢; simp [kt, rfE_fin, Jp.x])
     ·have k3 : ((n.kids.length : Int) != (valS d.dom).length) = true := by rw [bne_iff_ne]; omega
      rw [List.length_map]
      simp only [k2, decide_false, Bool.false_and, Bool.and_false]
      refine acw_ex (v := .bool false) (CT T_play_table_wins) rfl rfl (fun _ => rfl) (by simp) ⟨[.row 1 [.pin (tabV m) 0], .row 1 [treeV t], .row 1 [.bool y], .row 1 [.bool false], .row 3 [nodeV n], .row 1 [.bool false]], ?_⟩
      cases z <;> cases y <;> first | (exact absurd rfl dm) | simp [runW_fin, F_play_table_wins, i_play_table_wins, ko, ky, kn, ks, hd2, d1, hlt, hi4, b1, tabV, hn1, hn2, hi, hi5, e1, k1, k3]
    ·simp only [k1, decide_false, Bool.false_and]
     have k2 : (n.kind != 2) = true := by rw [bne_iff_ne]; exact k1
     refine acw_ex (v := .bool false) (CT T_play_table_wins) rfl rfl (fun _ => rfl) (by simp) ⟨[.row 1 [.pin (tabV m) 0], .row 1 [treeV t], .row 1 [.bool y], .row 1 [.bool false], .row 3 [nodeV n], .row 1 [.bool false]], ?_⟩
     cases z <;> cases y <;> first | (exact absurd rfl dm) | simp [runW_fin, F_play_table_wins, i_play_table_wins, ko, ky, kn, ks, hd2, d1, hlt, hi4, b1, tabV, hn1, hn2, hi, hi5, e1, k2]
end Go.RR.PL
set_option linter.unusedVariables false
set_option linter.unusedSimpArgs false
set_option maxRecDepth 100000
set_option maxHeartbeats 8000000
namespace Go.RR.PL
open Go Go.RR Go.RR.M
/-- whether a tree wins, whole -/
def winsB (m : Mod) (t : List Nd) (y : Bool) : Bool := decide (checkB m = 0) && (mayT t && win (gm m) y (varsOf m.blocks).length (unf t (t.length - 1)) [])
theorem sub1 {n : Nat} (h : 0 < n) (h2 : n ≤ 1000000) : IntKind.i64.wrap ((n : Int) - 1) = ((n - 1 : Nat) : Int) := by
 rw [wrap64 (by omega) (by omega)]
 omega
theorem Wins (m : Mod) (hm : modOK m) (t : List Nd) (hn : t.length ≤ 1000000) (y : Bool) (h : List Ob) : acw C n_play_Wins [modV m, treeV t, .bool y] h = some (.ret (.bool (winsB m t y)), h) := by
 have kc := fun h => check m hm h
 have kt := fun h => tree_May t (by omega) h
 unfold winsB
 by_cases c : checkB m = 0
 ·have hp := mp_of hm c
  by_cases e : mayT t = true
  ·have hlen := mayT_len e
   have kl := fun h => lay m hm h
   have hs := sub1 hlen.1 hn
   have kv : acw C n_play_table_wins [.ptr 2 0 0 1, treeV t, iv (t.length - 1 : Nat), .bool y, .nsl 1] (oh m) = some (.ret (.bool (win (gm m) y (varsOf m.blocks).length (unf t (t.length - 1)) [])), oh m) :=
    acw_of_frz (a2 := [.pin (tabV m) 0, treeV t, iv (t.length - 1 : Nat), .bool y, intsV []]) (CT T_play_table_wins) rfl rfl rfl (wins m hp t e y _ _ [] (by omega) (by simp) []) rfl
   simp only [oh] at kv
   obtain ⟨q, hq⟩ : ∃ q : Nat, q = t.length - 1 := ⟨_, rfl⟩
   rw [← hq] at kv hs ⊢
   refine acw_ex (v := .bool _) (CT T_play_Wins) rfl rfl (fun _ => rfl) (by simp) ⟨oh m, ?_⟩
   simp [runW_fin, F_play_Wins, i_play_Wins, kc, c, kt, e, kl, hs, kv]
  ·have e' : mayT t = false := by simpa using e
   refine acw_ex (v := .bool _) (CT T_play_Wins) rfl rfl (fun _ => rfl) (by simp) ⟨[.row 2 [modV m]], ?_⟩
   simp [runW_fin, F_play_Wins, i_play_Wins, kc, c, kt, e']
 ·refine acw_ex (v := .bool _) (CT T_play_Wins) rfl rfl (fun _ => rfl) (by simp) ⟨[.row 2 [modV m]], ?_⟩
  have c2 : (checkB m == 0) = false := by simpa using c
  simp [runW_fin, F_play_Wins, i_play_Wins, kc, c2, c]
end Go.RR.PL
set_option maxRecDepth 100000
namespace Go.RR.PL
open Go Go.RR Go.RR.M
theorem awake0 (n : Nat) (h : List Ob) : acall C (n + 120) n_law20_awake [] h = some (.ret (.bool true), h) := by kernel_rfl
theorem awake (h : List Ob) : acw C n_law20_awake [] h = some (.ret (.bool true), h) := acall_acw 120 _ _ _ _ (awake0 0 h)
end Go.RR.PL
set_option linter.unusedVariables false
set_option linter.unusedSimpArgs false
set_option maxRecDepth 100000
set_option maxHeartbeats 8000000
namespace Go.RR.PL
open Go Go.RR Go.RR.M
end Go.RR.PL
set_option linter.unusedVariables false
set_option linter.unusedSimpArgs false
set_option maxRecDepth 100000
set_option maxHeartbeats 8000000
namespace Go.RR.PL
open Go Go.RR Go.RR.M
theorem share_len' {t : List Nd} (h : t.length ≤ 200) : (shareT t).length ≤ 200 := by
 cases hm : mayT t with
 | false => rw [share_no hm]; simp
 | true => have := share_len hm; omega
theorem wins_share {m : Mod} {t : List Nd} {y : Bool} : winsB m (shareT t) y = winsB m t y := by
 unfold winsB
 cases hm : mayT t with
 | true =>
  have h1 := share_may hm
  have h2 : unf (shareT t) ((shareT t).length - 1) = unf t (t.length - 1) := root_share hm
  rw [h1, h2]
 | false =>
  rw [share_no hm]
  simp [mayT]
theorem same (m : Mod) (t : List Nd) (y : Bool) (h : List Ob) : acw C n_law20_PlaySame [modV m, treeV t, .bool y] h = some (.ret (.bool true), h) := by
 refine acw_ex (v := .bool true) (CT T_law20_PlaySame) rfl rfl (fun _ => rfl) (by simp) ?_
 have k0 := awake
 obtain ⟨b, kl, kb⟩ := Large m
 cases b with
 | true => exact ⟨[.row 2 [modV m]], by simp [runW_fin, F_law20_PlaySame, i_law20_PlaySame, k0, kl]⟩
 | false =>
  have hm := kb rfl
  by_cases c2 : (200 : Int) < t.length
  ·exact ⟨[.row 2 [modV m]], by simp [runW_fin, F_law20_PlaySame, i_law20_PlaySame, k0, kl, c2]⟩
  have hs := share_len' (t := t) (by omega)
  have kw := fun h => Wins m hm t (by omega) y h
  have kw2 := fun h => Wins m hm (shareT t) (by omega) y h
  have ks := fun h => tree_Share t (by omega) h
  rw [wins_share] at kw2
  obtain ⟨a, ha⟩ : ∃ a, a = winsB m t y := ⟨_, rfl⟩
  rw [← ha] at kw kw2
  refine ⟨[.row 2 [modV m]], ?_⟩
  cases a <;> simp [runW_fin, F_law20_PlaySame, i_law20_PlaySame, k0, kl, c2, kw, kw2, ks]
end Go.RR.PL
