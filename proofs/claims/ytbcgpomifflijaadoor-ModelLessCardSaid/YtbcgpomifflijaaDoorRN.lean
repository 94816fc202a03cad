/- The model's law on nodes: no search of all rows needs more. -/
import Derived.Test.YtbcgpomifflijaaDoorRM
import Derived.Test.YtbcgpomifflijaaDoorR5
set_option linter.unusedVariables false
set_option linter.unusedSimpArgs false
set_option linter.unusedVariables false
set_option linter.unusedSimpArgs false
set_option maxRecDepth 100000
namespace Go.RR
abbrev uv (n : Int) : V := .int .u64 n
theorem wrapU {n : Int} (h0 : 0 ≤ n) (h1 : n ≤ 18446744073709551615) : IntKind.u64.wrap n = n := by
  unfold IntKind.wrap
  simp [IntKind.bits, IntKind.signed]
  omega
end Go.RR
namespace Go.RR.M
open Go Go.RR
theorem prodN_ge : ∀ (l : List Decl) (m : Int), 0 ≤ m → m ≤ topI → m ≤ prodN m l
  | [], m, _, _ => Int.le_refl _
  | d :: r, m, h0, h1 => by
    simp only [prodN]
    have hs := spN_top d.dom
    split
    · rename_i hc
      have hm : m ≤ m * (spN d.dom + 1) := by
        have := Int.mul_le_mul_of_nonneg_left (show (1 : Int) ≤ spN d.dom + 1 by omega) h0
        omega
      exact Int.le_trans hm (prodN_ge r _ (by omega) hc)
    · exact h1
theorem nodes_l0 (l : List Sp) (hl : l.length ≤ 150) (hr : ∀ s ∈ l, s.lo ≤ s.hi ∧ -1048576 ≤ s.lo ∧ s.hi ≤ 1048576) (A B E D N I : V) : ∀ (k i : Nat) (n : Int) (h : List Ob), i + k = l.length → 0 ≤ n → n + spS (l.drop i) ≤ 2097153 →
    ∃ h', evw C i_law08_ModelNodes_l0 [(3, A), (4, B), (5, E), (8, uv n), (23, D), (24, N), (25, I), (30, spsV l), (31, iv l.length), (32, iv i)] h = some (.ext 2, [(3, A), (4, B), (5, E), (8, uv (n + spS (l.drop i))), (23, D), (24, N), (25, I), (30, spsV l), (31, iv l.length), (32, iv l.length), (33, .bool false)], h') := by
  intro k
  induction k with
  | zero =>
    intro i n h hi h0 h1
    have : i = l.length := by omega
    subst this
    refine ⟨h, ?_⟩
    rw [r_law08_ModelNodes_0, List.drop_length]
    simp [b_law08_ModelNodes_0, spS]
  | succ k ih =>
    intro i n h hi h0 h1
    have hlt : i < l.length := by omega
    have hw := wrap_succ hlt (by omega)
    have hs := hr _ (List.getElem_mem hlt)
    rw [List.drop_eq_getElem_cons hlt] at h1 ⊢
    simp only [spS] at h1 ⊢
    have hnn := spS_nn (l := l.drop (i + 1)) fun s hs => hr s (List.mem_of_mem_drop hs)
    have w1 : IntKind.i64.wrap (l[i].hi - l[i].lo) = l[i].hi - l[i].lo := wrap64 (by omega) (by omega)
    have w2 : IntKind.i64.wrap (l[i].hi - l[i].lo + 1) = l[i].hi - l[i].lo + 1 := wrap64 (by omega) (by omega)
    have w3 : IntKind.u64.wrap (l[i].hi - l[i].lo + 1) = l[i].hi - l[i].lo + 1 := wrapU (by omega) (by omega)
    have w4 : IntKind.u64.wrap (n + (l[i].hi - l[i].lo + 1)) = n + (l[i].hi - l[i].lo + 1) := wrapU (by omega) (by omega)
    obtain ⟨h', ih⟩ := ih (i + 1) (n + (l[i].hi - l[i].lo + 1)) (h ++ [.row 2 [spV l[i]]]) (by omega) (by omega) (by omega)
    refine ⟨h', ?_⟩
    simp only [Int.natCast_add, Int.cast_ofNat_Int] at ih
    rw [r_law08_ModelNodes_0, ← Int.add_assoc, ← ih]
    simp [b_law08_ModelNodes_0, hlt, w1, w2, w3, w4, hw]
/-- what is known on the way -/
structure Way (n rows all P : Int) (i : Nat) (r : List Decl) : Prop where
  r1 : 1 ≤ rows
  rp : rows ≤ P
  ap : all ≤ P
  a0 : 1 ≤ all
  ab : all ≤ 1 + i * 72057594037927936
  rb : rows ≤ 72057594037927936
  nn : (n = prodN (2 * P) r ∧ 2 * P ≤ topI) ∨ n = topI
theorem nodes_l1 (n : Int) (hn0 : 0 ≤ n) (hn1 : n ≤ topI) (ds : List Decl) (hd : ∀ d ∈ ds, declOK d) (hk : ∀ d ∈ ds, spR none d.dom = true ∧ 1 ≤ spN d.dom ∧ spN d.dom ≤ 64) (hl : ds.length ≤ 16) : ∀ (k i : Nat) (rows all P : Int) (h : List Ob), i + k = ds.length → Way n rows all P i (ds.drop i) →
    ∃ fr' h', (evw C i_law08_ModelNodes_l1 [(3, iv n), (4, uv rows), (5, uv all), (23, declsV ds), (24, iv ds.length), (25, iv i)] h = some (.ext 0, fr', h') ∧ get fr' 3 = iv n ∧ ∃ a, get fr' 5 = uv a ∧ a ≤ n.tdiv 2 + 1 ∧ 0 < n) ∨ evw C i_law08_ModelNodes_l1 [(3, iv n), (4, uv rows), (5, uv all), (23, declsV ds), (24, iv ds.length), (25, iv i)] h = some (.ret, [(2, .bool true)], h') := by
  intro k
  induction k with
  | zero =>
    intro i rows all P h hi W
    have : i = ds.length := by omega
    subst this
    rw [List.drop_length] at W
    have e2 : n.tdiv 2 = n / 2 := Int.tdiv_eq_ediv_of_nonneg hn0
    have hab := W.ab
    have htop : topI = 9223372036854775807 := rfl
    refine ⟨[(3, iv n), (4, uv rows), (5, uv all), (23, declsV ds), (24, iv ds.length), (25, iv ds.length), (26, .bool false)], h, .inl ⟨?_, rfl, all, rfl, ?_, ?_⟩⟩
    · rw [r_law08_ModelNodes_1]
      simp [b_law08_ModelNodes_1]
    · rw [e2]
      rcases W.nn with ⟨e, _⟩ | e
      · have := W.ap
        simp only [prodN] at e
        omega
      · omega
    · rcases W.nn with ⟨e, _⟩ | e
      · have := W.rp
        have := W.r1
        simp only [prodN] at e
        omega
      · omega
  | succ k ih =>
    intro i rows all P h hi W
    have hlt : i < ds.length := by omega
    have hw := wrap_succ hlt (by omega)
    obtain ⟨hr, hk1, hk2⟩ := hk _ (List.getElem_mem hlt)
    have hdl := (hd _ (List.getElem_mem hlt)).2
    have hsp : spS ds[i].dom = spN ds[i].dom := by unfold spN; rw [if_pos hr]
    have hall := spR_all hr
    obtain ⟨h1, l0⟩ := nodes_l0 ds[i].dom hdl hall (iv n) (uv rows) (uv all) (declsV ds) (iv ds.length) (iv i) ds[i].dom.length 0 0 (h ++ [.row 2 [declV ds[i]]]) (by omega) (by omega) (by rw [List.drop_zero, hsp]; omega)
    simp only [List.drop_zero, Int.cast_ofNat_Int, hsp, Int.zero_add] at l0
    have htop : topI = 9223372036854775807 := rfl
    have W1 := W.r1
    have W2 := W.rp
    have W3 := W.ap
    have W4 := W.a0
    have W5 := W.ab
    have W6 := W.rb
    have hdrop := List.drop_eq_getElem_cons hlt
    by_cases c : 1125899906842624 < rows
    · have hbig : 1125899906842624 < n := by
        rcases W.nn with ⟨e, hP⟩ | e
        · have := prodN_ge (ds.drop i) (2 * P) (by omega) hP
          omega
        · omega
      refine ⟨[], h1, .inr ?_⟩
      rw [r_law08_ModelNodes_1]
      simp [b_law08_ModelNodes_1, hlt, l0, c, hbig]
    · have e1 : rows * spN ds[i].dom ≤ 1125899906842624 * 64 := Int.mul_le_mul (by omega) hk2 (by omega) (by omega)
      have e2 : 1 ≤ rows * spN ds[i].dom := by
        have := Int.mul_le_mul W1 hk1 (by omega) (by omega)
        omega
      have e3 : rows * spN ds[i].dom ≤ P * spN ds[i].dom := Int.mul_le_mul_of_nonneg_right W2 (by omega)
      have e4 : P * (spN ds[i].dom + 1) = P * spN ds[i].dom + P := by rw [Int.mul_add, Int.mul_one]
      have w1 : IntKind.u64.wrap (rows * spN ds[i].dom) = rows * spN ds[i].dom := wrapU (by omega) (by omega)
      have hi16 : (i : Int) ≤ 16 := by omega
      have w2 : IntKind.u64.wrap (all + rows * spN ds[i].dom) = all + rows * spN ds[i].dom := wrapU (by omega) (by omega)
      have W' : Way n (rows * spN ds[i].dom) (all + rows * spN ds[i].dom) (P * (spN ds[i].dom + 1)) (i + 1) (ds.drop (i + 1)) := by
        refine ⟨e2, by omega, by omega, by omega, ?_, by omega, ?_⟩
        · rw [Int.natCast_add]
          omega
        · rcases W.nn with ⟨e, hP⟩ | e
          · rw [hdrop] at e
            simp only [prodN] at e
            have e5 : 2 * P * (spN ds[i].dom + 1) = 2 * (P * (spN ds[i].dom + 1)) := by rw [Int.mul_assoc]
            rw [e5] at e
            split at e
            · rename_i hc
              exact .inl ⟨e, hc⟩
            · exact .inr e
          · exact .inr e
      obtain ⟨fr', h', ih⟩ := ih (i + 1) _ _ _ h1 (by omega) W'
      refine ⟨fr', h', ?_⟩
      simp only [Int.natCast_add, Int.cast_ofNat_Int] at ih
      have step : evw C i_law08_ModelNodes_l1 [(3, iv n), (4, uv rows), (5, uv all), (23, declsV ds), (24, iv ds.length), (25, iv i)] h = evw C i_law08_ModelNodes_l1 [(3, iv n), (4, uv (rows * spN ds[i].dom)), (5, uv (all + rows * spN ds[i].dom)), (23, declsV ds), (24, iv ds.length), (25, iv ((i : Int) + 1))] h1 := by
        rw [r_law08_ModelNodes_1]
        simp [b_law08_ModelNodes_1, hlt, l0, c, w1, w2, hw]
      rw [step]
      exact ih
theorem nodesLaw (m : Mod) (h : List Ob) : acw C n_law08_ModelNodes [modV m] h = some (.ret (.bool true), h) := by
  refine acw_ex (v := .bool true) (CT T_law08_ModelNodes) rfl rfl (fun _ => rfl) (by simp) ?_
  have k0 := awake
  have k1 := large m
  rcases Bool.eq_false_or_eq_true (largeB m) with e1 | e1 <;> rw [e1] at k1
  · simp [runW_fin, F_law08_ModelNodes, i_law08_ModelNodes, k0, k1]
  have hm := largeB_ok e1
  have k2 := check m hm
  by_cases c : checkB m = 0
  · rw [c] at k2
    have k3 := nodes m hm
    have k4 := vars m hm
    have hv : ∀ d ∈ varsOf m.blocks, declOK d := by
      intro d hd
      obtain ⟨b, hb, hd⟩ := List.mem_flatMap.1 hd
      exact (hm.2.2.2 b hb).2.2.2 d hd
    have hc := c
    unfold checkB at hc
    split at hc
    · exact absurd hc (by decide)
    rename_i hbig
    split at hc
    · exact absurd hc (by decide)
    split at hc
    · exact absurd hc (by decide)
    split at hc
    · exact absurd hc (by decide)
    split at hc
    · exact absurd hc (by decide)
    rename_i harg
    have hlen : (varsOf m.blocks).length ≤ 16 := by
      unfold bigB at hbig
      simp only [Bool.or_eq_true, decide_eq_true_eq, not_or] at hbig
      omega
    have hk : ∀ d ∈ varsOf m.blocks, spR none d.dom = true ∧ 1 ≤ spN d.dom ∧ spN d.dom ≤ 64 := by
      intro d hd
      have := any_false (Bool.eq_false_iff.2 harg) d hd
      unfold argB at this
      simp only [Bool.or_eq_false_iff, decide_eq_false_iff_not] at this
      refine ⟨?_, by omega, by omega⟩
      by_cases hr : spR none d.dom = true
      · exact hr
      · exfalso
        have : spN d.dom = 0 := by unfold spN; rw [if_neg hr]
        omega
    have hnb : nodesB m = prodN 2 (varsOf m.blocks) := by unfold nodesB; rw [if_pos c]
    have hn1 : nodesB m ≤ topI := by
      rw [hnb]
      have key : ∀ (l : List Decl) (q : Int), q ≤ topI → prodN q l ≤ topI := by
        intro l
        induction l with
        | nil => intro q h; exact h
        | cons d r ih =>
          intro q h
          simp only [prodN]
          split
          · rename_i hc; exact ih _ hc
          · exact Int.le_refl _
      exact key _ _ (by decide)
    have hn0 : 2 ≤ nodesB m := by rw [hnb]; exact prodN_ge _ _ (by omega) (by decide)
    have htop : topI = 9223372036854775807 := rfl
    have w1 : IntKind.u64.wrap (nodesB m) = nodesB m := wrapU (by omega) (by omega)
    have hq : 0 ≤ (nodesB m).tdiv 2 ∧ (nodesB m).tdiv 2 ≤ nodesB m := by
      rw [Int.tdiv_eq_ediv_of_nonneg (by omega)]
      omega
    have w2 : IntKind.u64.wrap ((nodesB m).tdiv 2) = (nodesB m).tdiv 2 := wrapU (by omega) (by omega)
    have w3 : IntKind.u64.wrap ((nodesB m).tdiv 2 + 1) = (nodesB m).tdiv 2 + 1 := wrapU (by omega) (by omega)
    obtain ⟨fr', h', ⟨q1, q2, a, q3, q4, q5⟩ | q1⟩ := nodes_l1 (nodesB m) (by omega) hn1 (varsOf m.blocks) hv hk hlen (varsOf m.blocks).length 0 1 1 1 [.row 2 [modV m]] (by omega) ⟨by omega, by omega, by omega, by omega, by omega, by omega, .inl ⟨by rw [hnb]; rfl, by decide⟩⟩
    · simp only [Int.cast_ofNat_Int] at q1
      simp [runW_fin, F_law08_ModelNodes, i_law08_ModelNodes, k0, k1, k2, k3, k4, q1, q2, q3, q4, q5, w1, w2, w3, ine]
    · simp only [Int.cast_ofNat_Int] at q1
      simp [runW_fin, F_law08_ModelNodes, i_law08_ModelNodes, k0, k1, k2, k3, k4, q1, ine]
  · simp [runW_fin, F_law08_ModelNodes, i_law08_ModelNodes, k0, k1, k2, c, ine]
end Go.RR.M
set_option linter.unusedVariables false
set_option linter.unusedSimpArgs false
set_option maxRecDepth 100000
namespace Go.RR.M
open Go Go.RR
theorem vOK_more {vars : Int} : ∀ {l pre : List Int}, vOK vars pre l = true → vOK (vars + 1) pre l = true
  | [], _, _ => rfl
  | v :: r, pre, h => by
    simp only [vOK, Bool.and_eq_true, decide_eq_true_eq] at h ⊢
    exact ⟨⟨⟨h.1.1.1, by omega⟩, h.1.2⟩, vOK_more h.2⟩
theorem varsB_more {c : Con} {vars a b : Int} (h : varsB c vars a b = true) : varsB c (vars + 1) a b = true := by
  unfold varsB at h ⊢
  simp only [Bool.and_eq_true] at h ⊢
  exact ⟨h.1, vOK_more h.2⟩
theorem rightB_more {c : Con} {vars : Int} (h : rightB c vars = true) : rightB c (vars + 1) = true := by
  unfold rightB at h ⊢
  unfold linearB productB iffB elementB differB tableB at *
  repeat' split at h
  all_goals first
    | (simp only [Bool.and_eq_true] at h; simp_all [varsB_more])
    | cases h
theorem checkB_zero {m : Mod} : checkB m = 0 ↔ bigB m = false ∧ (decide ((m.blocks.length : Int) = 0) || (m.blocks.any fun b => decide ((b.vars.length : Int) = 0))) = false ∧ ((varsOf m.blocks).any fun d => !nameB d.name) = false ∧ twB [] (varsOf m.blocks) = false ∧ (varsOf m.blocks).any argB = false ∧ wrongB m = false := by
  unfold checkB
  constructor
  · intro h
    split at h
    · exact absurd h (by decide)
    rename_i h1
    split at h
    · exact absurd h (by decide)
    rename_i h2
    split at h
    · exact absurd h (by decide)
    rename_i h3
    split at h
    · exact absurd h (by decide)
    rename_i h4
    split at h
    · exact absurd h (by decide)
    rename_i h5
    split at h
    · exact absurd h (by decide)
    rename_i h6
    exact ⟨Bool.eq_false_iff.2 h1, Bool.eq_false_iff.2 h2, Bool.eq_false_iff.2 h3, Bool.eq_false_iff.2 h4, Bool.eq_false_iff.2 h5, Bool.eq_false_iff.2 h6⟩
  · rintro ⟨h1, h2, h3, h4, h5, h6⟩
    simp only [h1, h2, h3, h4, h5, h6, Bool.false_eq_true, if_false]
theorem any_take {α : Type} {p : α → Bool} {l : List α} (n : Nat) (h : l.any p = false) : (l.take n).any p = false := by
  rw [Bool.eq_false_iff]
  intro e
  obtain ⟨x, hx, hp⟩ := List.any_eq_true.1 e
  rw [any_false h x (List.mem_of_mem_take hx)] at hp
  exact Bool.noConfusion hp
/-- without its last constraint -/
theorem check_less {m : Mod} (n : Nat) (h : checkB m = 0) : checkB ⟨m.blocks, m.goal.take n⟩ = 0 := by
  rw [checkB_zero] at h ⊢
  obtain ⟨h1, h2, h3, h4, h5, h6⟩ := h
  refine ⟨?_, h2, h3, h4, h5, ?_⟩
  · unfold bigB at h1 ⊢
    simp only [Bool.or_eq_false_iff, decide_eq_false_iff_not] at h1 ⊢
    refine ⟨h1.1, h1.2.1, ?_, h1.2.2.2⟩
    have := h1.2.2.1
    rw [List.length_take]
    omega
  · unfold wrongB at h6 ⊢
    simp only [Bool.or_eq_false_iff] at h6 ⊢
    exact ⟨h6.1, any_take n h6.2⟩
theorem goal_right {m : Mod} (h : checkB m = 0) : ∀ c ∈ m.goal, rightB c (varsOf m.blocks).length = true := by
  intro c hc
  have h6 := (checkB_zero.1 h).2.2.2.2.2
  unfold wrongB at h6
  simp only [Bool.or_eq_false_iff] at h6
  simpa using any_false h6.2 c hc
end Go.RR.M
set_option linter.unusedVariables false
set_option linter.unusedSimpArgs false
set_option maxRecDepth 100000
namespace Go.RR.M
open Go Go.RR
def renD (i a : Nat) (nm : List UInt8) : List Decl → List Decl
  | [] => []
  | d :: r => (if i = a then ⟨nm, d.dom⟩ else d) :: renD (i + 1) a nm r
def renB (i a : Nat) (nm : List UInt8) : List Blk → List Blk
  | [] => []
  | b :: r => ⟨b.all, renD i a nm b.vars, b.wh⟩ :: renB (i + b.vars.length) a nm r
theorem renD_len {a : Nat} {nm : List UInt8} : ∀ {l : List Decl} {i : Nat}, (renD i a nm l).length = l.length
  | [], _ => rfl
  | d :: r, i => by simp [renD, renD_len (l := r)]
theorem renD_app {a : Nat} {nm : List UInt8} : ∀ {l m : List Decl} {i : Nat}, renD i a nm (l ++ m) = renD i a nm l ++ renD (i + l.length) a nm m
  | [], _, _ => rfl
  | d :: r, m, i => by
    simp only [List.cons_append, renD, renD_app (l := r), List.length_cons, List.cons.injEq, true_and]
    rw [show i + 1 + r.length = i + (r.length + 1) by omega]
theorem vars_ren {a : Nat} {nm : List UInt8} : ∀ {l : List Blk} {i : Nat}, varsOf (renB i a nm l) = renD i a nm (varsOf l)
  | [], _ => rfl
  | b :: r, i => by
    have ih := vars_ren (a := a) (nm := nm) (l := r) (i := i + b.vars.length)
    unfold varsOf at ih ⊢
    simp only [renB, List.flatMap_cons, ih, renD_app]
theorem renB_len {a : Nat} {nm : List UInt8} : ∀ {l : List Blk} {i : Nat}, (renB i a nm l).length = l.length
  | [], _ => rfl
  | b :: r, i => by simp [renB, renB_len (l := r)]
theorem renB_any {a : Nat} {nm : List UInt8} {p : Blk → Bool} (hp : ∀ b v, v.length = b.vars.length → p ⟨b.all, v, b.wh⟩ = p b) : ∀ {l : List Blk} {i : Nat}, (renB i a nm l).any p = l.any p
  | [], _ => rfl
  | b :: r, i => by simp only [renB, List.any_cons, renB_any hp (l := r), hp b _ renD_len]
theorem renD_get {a : Nat} {nm : List UInt8} : ∀ {l : List Decl} {i k : Nat} (h : k < l.length), (renD i a nm l)[k]? = some (if i + k = a then ⟨nm, l[k].dom⟩ else l[k])
  | [], _, _, h => by simp at h
  | d :: r, i, 0, h => by simp [renD]
  | d :: r, i, k + 1, h => by
    simp only [renD, List.getElem?_cons_succ, List.getElem_cons_succ]
    rw [renD_get (l := r) (i := i + 1) (k := k) (by simpa using h)]
    rw [show i + 1 + k = i + (k + 1) by omega]
theorem renD_any {a : Nat} {nm : List UInt8} {p : List UInt8 → Bool} (hn : p nm = false) : ∀ {l : List Decl} {i : Nat}, (l.any fun d => p d.name) = false → ((renD i a nm l).any fun d => p d.name) = false
  | [], _, _ => rfl
  | d :: r, i, h => by
    simp only [List.any_cons, Bool.or_eq_false_iff] at h
    simp only [renD, List.any_cons, renD_any hn (l := r) h.2, Bool.or_false]
    split
    · exact hn
    · exact h.1
/-- two of one name -/
theorem twB_two : ∀ {l pre : List Decl} {j : Nat} {x : Decl} (hj : j < l.length), (x ∈ pre ∨ ∃ i, i < j ∧ l[i]? = some x) → x.name = l[j].name → twB pre l = true
  | [], _, _, _, hj, _, _ => by simp at hj
  | d :: r, pre, 0, x, hj, hx, hn => by
    simp only [twB, Bool.or_eq_true, List.any_eq_true]
    rcases hx with hx | ⟨i, hi, _⟩
    · exact .inl ⟨x, hx, by simpa using hn⟩
    · omega
  | d :: r, pre, j + 1, x, hj, hx, hn => by
    simp only [twB, Bool.or_eq_true]
    right
    refine twB_two (l := r) (pre := pre ++ [d]) (j := j) (x := x) (by simpa using hj) ?_ (by simpa using hn)
    rcases hx with hx | ⟨i, hi, hxi⟩
    · exact .inl (by simp [hx])
    · cases i with
      | zero =>
        simp only [List.getElem?_cons_zero, Option.some.injEq] at hxi
        exact .inl (by simp [hxi])
      | succ i => exact .inr ⟨i, by omega, by simpa using hxi⟩
/-- with the name of another variable -/
theorem check_twice {m : Mod} (h : checkB m = 0) (a b : Nat) (ha : a < (varsOf m.blocks).length) (hb : b < (varsOf m.blocks).length) (hab : a ≠ b) : checkB ⟨renB 0 a (varsOf m.blocks)[b].name m.blocks, m.goal⟩ = 8 := by
  obtain ⟨h1, h2, h3, h4, h5, h6⟩ := checkB_zero.1 h
  have hv : varsOf (renB 0 a (varsOf m.blocks)[b].name m.blocks) = renD 0 a (varsOf m.blocks)[b].name (varsOf m.blocks) := vars_ren
  have e1 : bigB ⟨renB 0 a (varsOf m.blocks)[b].name m.blocks, m.goal⟩ = false := by
    unfold bigB at h1 ⊢
    simp only [hv, renD_len, renB_len]
    rw [renB_any (fun b v hv => rfl)]
    exact h1
  have e2 : (decide (((renB 0 a (varsOf m.blocks)[b].name m.blocks).length : Int) = 0) || ((renB 0 a (varsOf m.blocks)[b].name m.blocks).any fun b => decide ((b.vars.length : Int) = 0))) = false := by
    rw [renB_len, renB_any (fun b v hv => by simp only [hv])]
    exact h2
  have hnb := any_false h3 _ (List.getElem_mem hb)
  have e3 : ((varsOf (renB 0 a (varsOf m.blocks)[b].name m.blocks)).any fun d => !nameB d.name) = false := by
    rw [hv]
    exact renD_any (p := fun n => !nameB n) hnb h3
  have ga := renD_get (a := a) (nm := (varsOf m.blocks)[b].name) (i := 0) ha
  have gb := renD_get (a := a) (nm := (varsOf m.blocks)[b].name) (i := 0) hb
  rw [if_pos (by omega)] at ga
  rw [if_neg (by omega)] at gb
  have la : a < (renD 0 a (varsOf m.blocks)[b].name (varsOf m.blocks)).length := by rw [renD_len]; exact ha
  have lb : b < (renD 0 a (varsOf m.blocks)[b].name (varsOf m.blocks)).length := by rw [renD_len]; exact hb
  have e4 : twB [] (varsOf (renB 0 a (varsOf m.blocks)[b].name m.blocks)) = true := by
    rw [hv]
    rcases Nat.lt_or_gt_of_ne hab with hlt | hlt
    · refine twB_two (j := b) lb (.inr ⟨a, hlt, ga⟩) ?_
      have := List.getElem?_eq_some_iff.1 gb
      rw [this.2]
    · refine twB_two (j := a) la (.inr ⟨b, hlt, gb⟩) ?_
      have := List.getElem?_eq_some_iff.1 ga
      rw [this.2]
  unfold checkB
  simp only [e1, e2, e3, e4, Bool.false_eq_true, if_false, if_true]
end Go.RR.M
set_option linter.unusedVariables false
set_option linter.unusedSimpArgs false
set_option maxRecDepth 100000
set_option maxHeartbeats 4000000
namespace Go.RR.M
open Go Go.RR
/-- a block that is made -/
abbrev blkW (b : Blk) (v : V) : V := .agg [.bool b.all, v, consV b.wh]
theorem less_l0 (ds l : List Decl) (b : Blk) (hn : ds.length ≤ 30) (hl : l.length ≤ 900) (a c : Nat) (hc : c < l.length) (B y : Nat) (B3 B12 B84 B85 B86 : V) : ∀ (k i : Nat) (at' : Nat) (v : V) (xs : List V) (h : List Ob), i + k = ds.length → at' ≤ 900 + i → xs.length ≤ i → B ≤ y → h[y]? = some (.row 3 [blkW b v]) → AccB B h v 2 xs →
    ∃ v' h', evw C i_law08_ModelLess_l0 [(3, B3), (7, declsV l), (10, iv a), (11, iv c), (12, B12), (13, iv at'), (16, .ptr y 0 0 1), (84, B84), (85, B85), (86, B86), (96, declsV ds), (97, iv ds.length), (98, iv i)] h = some (.ext 2, [(3, B3), (7, declsV l), (10, iv a), (11, iv c), (12, B12), (13, iv (at' + k : Nat)), (16, .ptr y 0 0 1), (84, B84), (85, B85), (86, B86), (96, declsV ds), (97, iv ds.length), (98, iv ds.length), (99, .bool false)], h') ∧
      h'[y]? = some (.row 3 [blkW b v']) ∧ AccB B h' v' 2 (xs ++ (renD at' a l[c].name (ds.drop i)).map declV) ∧ h.length ≤ h'.length ∧ ∀ j, j < B → h'[j]? = h[j]? := by
  intro k
  induction k with
  | zero =>
    intro i at' v xs h hi ha hx hBy hy hA
    have : i = ds.length := by omega
    subst this
    rw [r_law08_ModelLess_0, List.drop_length]
    refine ⟨v, h, ?_, hy, by simpa [renD] using hA, Nat.le_refl _, fun _ _ => rfl⟩
    simp [b_law08_ModelLess_0]
  | succ k ih =>
    intro i at' v xs h hi ha hx hBy hy hA
    have hlt : i < ds.length := by omega
    have hw := wrap_succ hlt (by omega)
    have hwa : IntKind.i64.wrap ((at' : Int) + 1) = (at' : Int) + 1 := wrap64 (by omega) (by omega)
    have hyl := (List.getElem?_eq_some_iff.1 hy).1
    have hg : ∀ l, (h ++ l)[y]? = some (.row 3 [blkW b v]) := fun l => get_some hy
    have key : ∀ d : Decl, ∃ v1 w, appV (h.length + 1) (h ++ [.row 2 [declV d]]) 2 40 v (.sl 2 [declV d]) = some (v1, w) ∧ AccB B (wr (h ++ [.row 2 [declV d]]) w) v1 2 (xs ++ [declV d]) ∧ (wr (h ++ [.row 2 [declV d]]) w)[y]? = some (.row 3 [blkW b v]) ∧ h.length ≤ (wr (h ++ [.row 2 [declV d]]) w).length ∧ ∀ j, j < B → (wr (h ++ [.row 2 [declV d]]) w)[j]? = h[j]? := by
      intro d
      obtain ⟨v1, w, e1, e2, e3, e4⟩ := (hA.more (l := [.row 2 [declV d]])).app (b := 40) (y := .sl 2 [declV d]) (ys := [declV d]) (by simp only [List.length_append]; omega) rfl (by simp only [List.length_singleton]; omega) (by simp only [List.length_singleton]; omega)
      simp only [List.length_append, List.length_singleton] at e1
      refine ⟨v1, w, e1, e2, e3 y _ (hg _) (fun r _ e => by cases e), ?_, fun j hj => by rw [e4 j hj, get_lt (by omega)]⟩
      have := wr_length (h ++ [.row 2 [declV d]]) w
      simp only [List.length_append, List.length_singleton] at this
      omega
    have fin : ∀ d : Decl, d = (if at' = a then ⟨l[c].name, ds[i].dom⟩ else ds[i]) → (∀ v1 w, appV (h.length + 1) (h ++ [.row 2 [declV d]]) 2 40 v (.sl 2 [declV d]) = some (v1, w) → (wr (h ++ [.row 2 [declV d]]) w)[y]? = some (.row 3 [blkW b v]) → (∀ o, wr (wr (h ++ [.row 2 [declV d]]) w) (some (y, o)) = (wr (h ++ [.row 2 [declV d]]) w).set y o) → v1.isTup = false → v1.isUnd = false → v1.cells = [v1] →
        evw C i_law08_ModelLess_l0 [(3, B3), (7, declsV l), (10, iv a), (11, iv c), (12, B12), (13, iv at'), (16, .ptr y 0 0 1), (84, B84), (85, B85), (86, B86), (96, declsV ds), (97, iv ds.length), (98, iv i)] h =
        evw C i_law08_ModelLess_l0 [(3, B3), (7, declsV l), (10, iv a), (11, iv c), (12, B12), (13, iv ((at' : Int) + 1)), (16, .ptr y 0 0 1), (84, B84), (85, B85), (86, B86), (96, declsV ds), (97, iv ds.length), (98, iv ((i : Int) + 1))] (((wr (h ++ [.row 2 [declV d]]) w)).set y (.row 3 [blkW b v1]))) →
      ∃ v' h', evw C i_law08_ModelLess_l0 [(3, B3), (7, declsV l), (10, iv a), (11, iv c), (12, B12), (13, iv at'), (16, .ptr y 0 0 1), (84, B84), (85, B85), (86, B86), (96, declsV ds), (97, iv ds.length), (98, iv i)] h = some (.ext 2, [(3, B3), (7, declsV l), (10, iv a), (11, iv c), (12, B12), (13, iv (at' + (k + 1) : Nat)), (16, .ptr y 0 0 1), (84, B84), (85, B85), (86, B86), (96, declsV ds), (97, iv ds.length), (98, iv ds.length), (99, .bool false)], h') ∧
        h'[y]? = some (.row 3 [blkW b v']) ∧ AccB B h' v' 2 (xs ++ (renD at' a l[c].name (ds.drop i)).map declV) ∧ h.length ≤ h'.length ∧ ∀ j, j < B → h'[j]? = h[j]? := by
      intro d hd step
      obtain ⟨v1, w, e1, e2, e3, e4, e5⟩ := key d
      obtain ⟨t1, t2, t3, -⟩ := e2.good
      have hyl1 := (List.getElem?_eq_some_iff.1 e3).1
      obtain ⟨v', h', q1, q2, q3, q4, q5⟩ := ih (i + 1) (at' + 1) v1 (xs ++ [declV d]) ((wr (h ++ [.row 2 [declV d]]) w).set y (.row 3 [blkW b v1])) (by omega) (by omega) (by simp only [List.length_append, List.length_singleton]; omega) hBy (by rw [List.getElem?_set_self hyl1]) (e2.set e3 (by decide))
      simp only [Int.natCast_add, Int.cast_ofNat_Int] at q1
      refine ⟨v', h', ?_, q2, ?_, ?_, ?_⟩
      · rw [step v1 w e1 e3 (fun o => wr_lt hyl1) t1 t2 t3]
        simp only [Int.natCast_add, Int.cast_ofNat_Int]
        rw [q1, show (at' : Int) + 1 + k = at' + (k + 1) by omega]
      · rw [List.drop_eq_getElem_cons hlt]
        simp only [renD, List.map_cons]
        rw [← hd]
        simpa using q3
      · rw [List.length_set] at q4
        omega
      · intro j hj
        rw [q5 j hj, List.getElem?_set_ne (by omega), e5 j hj]
    by_cases e : at' = a
    · refine fin ⟨l[c].name, ds[i].dom⟩ (by rw [if_pos e]) fun v1 w e1 e3 e4 t1 t2 t3 => ?_
      subst e
      have k4 : bsfL (.agg [.str [], .nsl 2]) [declV ⟨l[c].name, ds[i].dom⟩] = some (.sl 2 [declV ⟨l[c].name, ds[i].dom⟩]) := rfl
      simp only [declV] at e1 e3 e4 k4
      rw [r_law08_ModelLess_0]
      simp [b_law08_ModelLess_0, hlt, hc, hg, hw, hwa, k4, e1, e3, e4, t1, t2, t3]
    · refine fin ds[i] (by rw [if_neg e]) fun v1 w e1 e3 e4 t1 t2 t3 => ?_
      have k4 : bsfL (.agg [.str [], .nsl 2]) [declV ds[i]] = some (.sl 2 [declV ds[i]]) := rfl
      have e' : ¬ ((at' : Int) = (a : Int)) := by omega
      rw [r_law08_ModelLess_0]
      simp [b_law08_ModelLess_0, hlt, hg, hw, hwa, k4, e1, e3, e4, t1, t2, t3, e', ieq]
theorem renB_app {a : Nat} {nm : List UInt8} : ∀ {l m : List Blk} {i : Nat}, renB i a nm (l ++ m) = renB i a nm l ++ renB (i + (varsOf l).length) a nm m
  | [], m, i => by simp [renB, varsOf]
  | b :: r, m, i => by
    simp only [List.cons_append, renB, renB_app (l := r), List.cons.injEq, true_and]
    have e : varsOf (b :: r) = b.vars ++ varsOf r := by simp [varsOf]
    rw [e, List.length_append, Nat.add_assoc]
/-- blocks that are made -/
def Made (h : List Ob) (ys : List V) (bs : List Blk) : Prop := ys.length = bs.length ∧ ∀ (j : Nat) (x : V) (b : Blk), ys[j]? = some x → bs[j]? = some b → ∃ v, x = blkW b v ∧ AccB 0 h v 2 (b.vars.map declV)
theorem Made.keep {h h' : List Ob} {ys : List V} {bs : List Blk} (m : Made h ys bs) (k : ∀ (j : Nat) (r : List V), h[j]? = some (Ob.row 2 r) → h'[j]? = some (Ob.row 2 r)) : Made h' ys bs :=
  ⟨m.1, fun j x b hx hb => by
    obtain ⟨v, e, a⟩ := m.2 j x b hx hb
    exact ⟨v, e, a.keep fun j r _ q => k j r q⟩⟩
theorem Made.snoc {h : List Ob} {ys : List V} {bs : List Blk} {b : Blk} {v : V} (m : Made h ys bs) (a : AccB 0 h v 2 (b.vars.map declV)) : Made h (ys ++ [blkW b v]) (bs ++ [b]) := by
  refine ⟨by simp [m.1], fun j x c hx hc => ?_⟩
  by_cases hj : j < ys.length
  · rw [List.getElem?_append_left hj] at hx
    rw [List.getElem?_append_left (by rw [← m.1]; exact hj)] at hc
    exact m.2 j x c hx hc
  · rw [List.getElem?_append_right (by omega)] at hx
    rw [List.getElem?_append_right (by rw [← m.1]; omega), ← m.1] at hc
    have : j - ys.length = 0 := by
      rcases Nat.eq_zero_or_pos (j - ys.length) with e | e
      · exact e
      · rw [List.getElem?_eq_none (by simp; omega)] at hx; cases hx
    rw [this] at hx hc
    simp only [List.getElem?_cons_zero, Option.some.injEq] at hx hc
    subst hx hc
    exact ⟨v, rfl, a⟩
theorem Made.frz {h : List Ob} {n : Nat} : ∀ {ys : List V} {bs : List Blk}, Made h ys bs → mapO (RR.frz h (n + 6)) ys = some (bs.map blkV)
  | [], [], _ => rfl
  | [], _ :: _, m => by have := m.1; simp at this
  | _ :: _, [], m => by have := m.1; simp at this
  | y :: ys, b :: bs, m => by
    obtain ⟨v, rfl, a⟩ := m.2 0 y b rfl rfl
    have ih := Made.frz (h := h) (n := n) (ys := ys) (bs := bs) ⟨by simpa using m.1, fun j x c hx hc => m.2 (j + 1) x c (by simpa using hx) (by simpa using hc)⟩
    have e := a.frz (n + 4) (mapO_id fun x hx => by
      obtain ⟨d, -, rfl⟩ := List.mem_map.1 hx
      exact declV_fz d h n)
    have e2 : RR.frz h (n + 6) (blkW b v) = some (blkV b) := by
      show (mapO (RR.frz h (n + 5)) [.bool b.all, v, consV b.wh]).map V.agg = _
      have e3 : RR.frz h (n + 5) v = some (.sl 2 (b.vars.map declV)) := e
      simp only [mapO, e3, show RR.frz h (n + 5) (.bool b.all) = some (.bool b.all) from rfl, show RR.frz h (n + 5) (consV b.wh) = some (consV b.wh) from rfl, Option.map_some]
    simp only [mapO, e2, ih, List.map_cons]
theorem less_l1 (bs : List Blk) (hb : ∀ b ∈ bs, blkOK b) (hn : bs.length ≤ 30) (l : List Decl) (hl : l.length ≤ 900) (a c : Nat) (hc : c < l.length) (B3 : V) : ∀ (k i : Nat) (v : V) (ys : List V) (h : List Ob), i + k = bs.length → ys.length ≤ i → AccB 0 h v 3 ys → Made h ys (renB 0 a l[c].name (bs.take i)) →
    ∃ fr' h' v' ys', evw C i_law08_ModelLess_l1 [(3, B3), (7, declsV l), (10, iv a), (11, iv c), (12, v), (13, iv (varsOf (bs.take i)).length), (84, blksV bs), (85, iv bs.length), (86, iv i)] h = some (.ext 0, fr', h') ∧ get fr' 3 = B3 ∧ get fr' 12 = v' ∧ AccB 0 h' v' 3 ys' ∧ Made h' ys' (renB 0 a l[c].name bs) ∧ ∀ (j : Nat) (r : List V), h[j]? = some (Ob.row 2 r) → h'[j]? = some (Ob.row 2 r) := by
  intro k
  induction k with
  | zero =>
    intro i v ys h hi hx hA hM
    have : i = bs.length := by omega
    subst this
    rw [r_law08_ModelLess_1]
    rw [List.take_length] at hM ⊢
    refine ⟨[(3, B3), (7, declsV l), (10, iv a), (11, iv c), (12, v), (13, iv (varsOf bs).length), (84, blksV bs), (85, iv bs.length), (86, iv bs.length), (87, .bool false)], h, v, ys, ?_, rfl, rfl, hA, hM, fun _ _ e => e⟩
    simp [b_law08_ModelLess_1]
  | succ k ih =>
    intro i v ys h hi hx hA hM
    have hlt : i < bs.length := by omega
    have hw := wrap_succ hlt (by omega)
    have hb' := hb _ (List.getElem_mem hlt)
    have hlen : (varsOf (bs.take i)).length ≤ 900 := by
      have := varsOf_len (l := bs.take i) fun b h => hb b (List.mem_of_mem_take h)
      rw [List.length_take] at this
      omega
    obtain ⟨v1, h1, q1, q2, q3, q4, q5⟩ := less_l0 bs[i].vars l bs[i] hb'.1 hl a c hc h.length (h.length + 1) B3 v (blksV bs) (iv bs.length) (iv i) bs[i].vars.length 0 (varsOf (bs.take i)).length (.nsl 2) [] (h ++ [.row 3 [blkV bs[i]], .row 3 [blkW bs[i] (.nsl 2)]]) (by omega) (by omega) (by simp) (by omega) (by simp) .nil
    simp only [List.drop_zero, Int.cast_ofNat_Int, List.nil_append] at q1 q3
    have hA1 : AccB 0 h1 v 3 ys := hA.keep fun j r _ e => by
      have hj := (List.getElem?_eq_some_iff.1 e).1
      rw [q5 j hj, get_lt hj]
      exact e
    obtain ⟨v2, w, e1, e2, e3, -⟩ := (hA1.more (l := [.row 3 [blkW bs[i] v1]])).app (b := 56) (y := .own h1.length 0 1 1) (ys := [blkW bs[i] v1]) (Nat.zero_le _) (by simp [src, RR.elems, rowOf]) (by simp only [List.length_singleton]; omega) (by simp only [List.length_singleton]; omega)
    have hM1 : Made (wr (h1 ++ [.row 3 [blkW bs[i] v1]]) w) ys (renB 0 a l[c].name (bs.take i)) := hM.keep fun j r e => by
      have hj := (List.getElem?_eq_some_iff.1 e).1
      refine e3 j _ (get_some ?_) fun r _ e => by cases e
      rw [q5 j hj, get_lt hj]
      exact e
    have hv1 : AccB 0 (wr (h1 ++ [.row 3 [blkW bs[i] v1]]) w) v1 2 ((renD (varsOf (bs.take i)).length a l[c].name bs[i].vars).map declV) := (q3.mono (Nat.zero_le _)).keep fun j r _ e => e3 j _ (get_some e) fun r _ e => by cases e
    have hM2 := hM1.snoc (b := ⟨bs[i].all, renD (varsOf (bs.take i)).length a l[c].name bs[i].vars, bs[i].wh⟩) hv1
    have ht : bs.take (i + 1) = bs.take i ++ [bs[i]] := by rw [List.take_append_getElem hlt]
    obtain ⟨fr', h', v', ys', p1, p2, p3, p4, p5, p6⟩ := ih (i + 1) v2 (ys ++ [blkW bs[i] v1]) (wr (h1 ++ [.row 3 [blkW bs[i] v1]]) w) (by omega) (by simp; omega) e2 (by
      rw [ht, renB_app]
      simpa [renB] using hM2)
    refine ⟨fr', h', v', ys', ?_, p2, p3, p4, p5, fun j r e => p6 j r ?_⟩
    · have hv : (varsOf (bs.take (i + 1))).length = (varsOf (bs.take i)).length + bs[i].vars.length := by rw [varsOf_take hlt, List.length_append]
      rw [hv] at p1
      simp only [Int.natCast_add, Int.cast_ofNat_Int] at p1 q1
      simp only [List.length_append, List.length_singleton] at e1
      rw [r_law08_ModelLess_1, ← p1]
      obtain ⟨t1, t2, t3, -⟩ := q3.good
      obtain ⟨s1, s2, s3, -⟩ := e2.good
      simp [b_law08_ModelLess_1, hlt, hw, q1, q2, e1, t1, t2, t3, s1, s2, s3]
    · have hj := (List.getElem?_eq_some_iff.1 e).1
      refine e3 j _ (get_some ?_) fun r _ e => by cases e
      rw [q5 j hj, get_lt hj]
      exact e
theorem vars_pos {m : Mod} (h : checkB m = 0) : 0 < (varsOf m.blocks).length := by
  obtain ⟨-, h2, -⟩ := checkB_zero.1 h
  simp only [Bool.or_eq_false_iff, decide_eq_false_iff_not] at h2
  cases hb : m.blocks with
  | nil => rw [hb] at h2; simp at h2
  | cons b r =>
    rw [hb] at h2
    have := any_false h2.2 b (by simp)
    simp only [decide_eq_false_iff_not] at this
    simp only [varsOf, List.flatMap_cons, List.length_append]
    omega
theorem frz_made {m : Mod} {h : List Ob} {v : V} {ys : List V} {bs : List Blk} (a : AccB 0 h v 3 ys) (md : Made h ys bs) : frzL h [.agg [v, consV m.goal]] = some [modV ⟨bs, m.goal⟩] := by
  have e := a.frz 10 (md.frz (n := 4))
  have e2 : frz h 12 (.agg [v, consV m.goal]) = some (modV ⟨bs, m.goal⟩) := by
    show (mapO (frz h 11) [v, consV m.goal]).map V.agg = _
    simp only [mapO, e, show frz h 11 (consV m.goal) = some (consV m.goal) from rfl, Option.map_some]
  show mapO (frz h 12) _ = _
  simp only [mapO, e2]
theorem mem_renD {a : Nat} {nm : List UInt8} : ∀ {l : List Decl} {i : Nat} {d : Decl}, d ∈ renD i a nm l → ∃ e ∈ l, d = e ∨ d = ⟨nm, e.dom⟩
  | [], _, _, h => by simp [renD] at h
  | e :: r, i, d, h => by
    simp only [renD, List.mem_cons] at h
    rcases h with h | h
    · refine ⟨e, by simp, ?_⟩
      split at h
      · exact .inr h
      · exact .inl h
    · obtain ⟨e', he, q⟩ := mem_renD h
      exact ⟨e', by simp [he], q⟩
theorem mem_renB {a : Nat} {nm : List UInt8} : ∀ {l : List Blk} {i : Nat} {d : Blk}, d ∈ renB i a nm l → ∃ e ∈ l, ∃ j, d = ⟨e.all, renD j a nm e.vars, e.wh⟩
  | [], _, _, h => by simp [renB] at h
  | e :: r, i, d, h => by
    simp only [renB, List.mem_cons] at h
    rcases h with h | h
    · exact ⟨e, by simp, i, h⟩
    · obtain ⟨e', he, q⟩ := mem_renB h
      exact ⟨e', by simp [he], q⟩
theorem modOK_ren {m : Mod} (hm : modOK m) (a b : Nat) (hb : b < (varsOf m.blocks).length) : modOK ⟨renB 0 a (varsOf m.blocks)[b].name m.blocks, m.goal⟩ := by
  have hnm : (varsOf m.blocks)[b].name.length ≤ 100 := by
    obtain ⟨x, hx, hd⟩ := List.mem_flatMap.1 (List.getElem_mem hb)
    exact ((hm.2.2.2 x hx).2.2.2 _ hd).1
  refine ⟨by simp only [renB_len]; exact hm.1, hm.2.1, hm.2.2.1, fun x hx => ?_⟩
  obtain ⟨e, he, j, rfl⟩ := mem_renB hx
  have hb' := hm.2.2.2 e he
  refine ⟨by simp only [renD_len]; exact hb'.1, hb'.2.1, hb'.2.2.1, fun d hd => ?_⟩
  obtain ⟨d', hd', rfl | rfl⟩ := mem_renD hd
  · exact hb'.2.2.2 _ hd'
  · exact ⟨hnm, (hb'.2.2.2 _ hd').2⟩
theorem lessLaw (m : Mod) (f o : Int) (hf : 0 ≤ f ∧ f ≤ 255) (ho : 0 ≤ o ∧ o ≤ 255) (h : List Ob) : acw C n_law08_ModelLess [modV m, .int .u8 f, .int .u8 o] h = some (.ret (.bool true), h) := by
  refine acw_ex (v := .bool true) (CT T_law08_ModelLess) rfl rfl (fun _ => rfl) (by simp) ?_
  have k0 := awake
  have k1 := large m
  rcases Bool.eq_false_or_eq_true (largeB m) with e1 | e1 <;> rw [e1] at k1
  · simp [runW_fin, F_law08_ModelLess, i_law08_ModelLess, k0, k1]
  have hm := largeB_ok e1
  have k2 := check m hm
  by_cases c : checkB m = 0
  case neg => simp [runW_fin, F_law08_ModelLess, i_law08_ModelLess, k0, k1, k2, c, ine]
  rw [c] at k2
  have k3 := ref_vars m hm
  have hL := vars_pos c
  have hL2 := varsLen m hm
  have hL0 : ¬ (((varsOf m.blocks).length : Int) = 0) := by omega
  have hLn : ¬ (varsOf m.blocks = []) := fun e => by rw [e] at hL; simp at hL
  obtain ⟨a, ha⟩ : ∃ a, a = f.toNat % (varsOf m.blocks).length := ⟨_, rfl⟩
  obtain ⟨b, hb⟩ : ∃ b, b = o.toNat % (varsOf m.blocks).length := ⟨_, rfl⟩
  have hal : a < (varsOf m.blocks).length := by rw [ha]; exact Nat.mod_lt _ hL
  have hbl : b < (varsOf m.blocks).length := by rw [hb]; exact Nat.mod_lt _ hL
  have ea : f.tmod ((varsOf m.blocks).length : Int) = (a : Int) := by
    rw [Int.tmod_eq_emod_of_nonneg hf.1, ha, Int.natCast_emod, Int.toNat_of_nonneg hf.1]
  have eb : o.tmod ((varsOf m.blocks).length : Int) = (b : Int) := by
    rw [Int.tmod_eq_emod_of_nonneg ho.1, hb, Int.natCast_emod, Int.toNat_of_nonneg ho.1]
  have wf : IntKind.i64.wrap f = f := wrap64 (by omega) (by omega)
  have wo : IntKind.i64.wrap o = o := wrap64 (by omega) (by omega)
  have tail : ∀ hh : List Ob, (∃ fr' h' v', evw C i_law08_ModelLess_l1 [(3, .ptr 0 0 0 1), (7, declsV (varsOf m.blocks)), (10, iv a), (11, iv b), (12, .own hh.length 0 0 0), (13, iv 0), (84, blksV m.blocks), (85, iv m.blocks.length), (86, iv 0)] (hh ++ [.row 3 []]) = some (.ext 0, fr', h') ∧ get fr' 3 = .ptr 0 0 0 1 ∧ get fr' 12 = v' ∧ v'.isTup = false ∧ v'.isUnd = false ∧ v'.cells = [v'] ∧ (a ≠ b → acw C n_model_Check [.agg [v', consV m.goal]] h' = some (.ret (iv 8), h')) ∧ ∀ (r : List V), hh[0]? = some (Ob.row 2 r) → h'[0]? = some (Ob.row 2 r)) := by
    intro hh
    obtain ⟨fr', h', v', ys', q1, q2, q3, q4, q5, q6⟩ := less_l1 m.blocks hm.2.2.2 hm.1 (varsOf m.blocks) hL2 a b hbl (.ptr 0 0 0 1) m.blocks.length 0 (.own hh.length 0 0 0) [] (hh ++ [.row 3 []]) (by omega) (by simp) (AccB.own (Nat.zero_le _) rfl (by simp)) ⟨rfl, fun j x b hx _ => by simp at hx⟩
    simp only [List.take_zero, Int.cast_ofNat_Int, varsOf, List.flatMap_nil, List.length_nil] at q1
    obtain ⟨t1, t2, t3, -⟩ := q4.good
    refine ⟨fr', h', v', q1, q2, q3, t1, t2, t3, fun hab => ?_, fun r e => q6 0 r (get_some e)⟩
    have hk := check ⟨renB 0 a (varsOf m.blocks)[b].name m.blocks, m.goal⟩ (modOK_ren hm a b hbl)
    rw [check_twice c a b hal hbl hab] at hk
    exact acw_of_frz (CT T_model_Check) rfl (frz_made q4 q5) rfl (hk []) rfl
  have c8 : iv 8 = V.int .i64 8 := rfl
  rcases Nat.eq_zero_or_pos m.goal.length with hg | hg
  · have hg' : m.goal.length = 0 := hg
    obtain ⟨fr', h', v', q1, q2, q3, t1, t2, t3, q4, q5⟩ := tail [.row 2 [modV m]]
    have q6 := q5 [modV m] rfl
    simp only [List.cons_append, List.nil_append, List.length_singleton] at q1
    by_cases hab : a = b
    · have hab' : (a : Int) = (b : Int) := by omega
      simp [runW_fin, F_law08_ModelLess, i_law08_ModelLess, k0, k1, k2, k3, hL0, hLn, hg', wf, wo, ea, eb, hab', ine, ieq]
    · have hab' : ¬ (a : Int) = (b : Int) := by omega
      have q7 := q4 hab
      simp [runW_fin, F_law08_ModelLess, i_law08_ModelLess, k0, k1, k2, k3, hL0, hLn, hg', wf, wo, ea, eb, hab', ine, ieq, q1, q2, q3, t1, t2, t3, q6, q7]
  · obtain ⟨n, hn⟩ : ∃ n, m.goal.length = n + 1 := ⟨m.goal.length - 1, by omega⟩
    have hlt : n < m.goal.length := by omega
    have hr1 := goal_right c _ (List.getElem_mem hlt)
    have hcon := conLen (hm.2.2.1 _ (List.getElem_mem hlt))
    have r1 := right m.goal[n] (varsOf m.blocks).length hcon
    have r2 := right m.goal[n] ((varsOf m.blocks).length + 1) hcon
    rw [hr1] at r1
    rw [rightB_more hr1] at r2
    have w1 : IntKind.i64.wrap ((varsOf m.blocks).length + 1) = (varsOf m.blocks).length + 1 := wrap64 (by omega) (by omega)
    have w2 : IntKind.i64.wrap (n : Int) = n := wrap64 (by omega) (by have := hm.2.1; omega)
    have w3 : (n : Int) ≤ (n : Int) + 1 := by omega
    have r3 := check ⟨m.blocks, m.goal.take n⟩ ⟨hm.1, by simp only [List.length_take]; have := hm.2.1; omega, fun c hc => hm.2.2.1 c (List.mem_of_mem_take hc), hm.2.2.2⟩
    rw [check_less n c] at r3
    simp only [modV, consV, List.map_take] at r3
    obtain ⟨fr', h', v', q1, q2, q3, t1, t2, t3, q4, q5⟩ := tail [.row 2 [modV m], .row 6 [conV m.goal[n]]]
    have q6 := q5 [modV m] rfl
    simp only [List.cons_append, List.nil_append, List.length_cons, List.length_nil] at q1
    by_cases hab : a = b
    · have hab' : (a : Int) = (b : Int) := by omega
      simp [runW_fin, F_law08_ModelLess, i_law08_ModelLess, k0, k1, k2, k3, hL0, hLn, hn, hlt, r1, r2, r3, w1, w2, w3, wf, wo, ea, eb, hab', ine, ieq]
    · have hab' : ¬ (a : Int) = (b : Int) := by omega
      have q7 := q4 hab
      simp [runW_fin, F_law08_ModelLess, i_law08_ModelLess, k0, k1, k2, k3, hL0, hLn, hn, hlt, r1, r2, r3, w1, w2, w3, wf, wo, ea, eb, hab', ine, ieq, q1, q2, q3, t1, t2, t3, q6, q7]
end Go.RR.M
