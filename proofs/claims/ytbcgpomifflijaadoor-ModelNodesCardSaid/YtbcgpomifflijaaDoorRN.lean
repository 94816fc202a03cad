/- The model's law on nodes: no search of all rows needs more. -/
import Derived.Test.YtbcgpomifflijaaDoorRM
set_option linter.unusedVariables false
set_option linter.unusedSimpArgs false
set_option linter.unusedVariables false
set_option linter.unusedSimpArgs false
set_option maxRecDepth 100000
namespace Go.RR
abbrev uv (n : Int) : V := .int .u64 n
theorem wrapU {n : Int} (h0 : 0 ≤ n) (h1 : n ≤ 18446744073709551615) : IntKind.u64.wrap n = n := by
  unfold IntKind.wrap
  simp [IntKind.bits, IntKind.signed]
  omega
end Go.RR
namespace Go.RR.M
open Go Go.RR
theorem prodN_ge : ∀ (l : List Decl) (m : Int), 0 ≤ m → m ≤ topI → m ≤ prodN m l
  | [], m, _, _ => Int.le_refl _
  | d :: r, m, h0, h1 => by
    simp only [prodN]
    have hs := spN_top d.dom
    split
    · rename_i hc
      have hm : m ≤ m * (spN d.dom + 1) := by
        have := Int.mul_le_mul_of_nonneg_left (show (1 : Int) ≤ spN d.dom + 1 by omega) h0
        omega
      exact Int.le_trans hm (prodN_ge r _ (by omega) hc)
    · exact h1
theorem nodes_l0 (l : List Sp) (hl : l.length ≤ 150) (hr : ∀ s ∈ l, s.lo ≤ s.hi ∧ -1048576 ≤ s.lo ∧ s.hi ≤ 1048576) (A B E D N I : V) : ∀ (k i : Nat) (n : Int) (h : List Ob), i + k = l.length → 0 ≤ n → n + spS (l.drop i) ≤ 2097153 →
    ∃ h', evw C i_law08_ModelNodes_l0 [(3, A), (4, B), (5, E), (8, uv n), (23, D), (24, N), (25, I), (30, spsV l), (31, iv l.length), (32, iv i)] h = some (.ext 2, [(3, A), (4, B), (5, E), (8, uv (n + spS (l.drop i))), (23, D), (24, N), (25, I), (30, spsV l), (31, iv l.length), (32, iv l.length), (33, .bool false)], h') := by
  intro k
  induction k with
  | zero =>
    intro i n h hi h0 h1
    have : i = l.length := by omega
    subst this
    refine ⟨h, ?_⟩
    rw [r_law08_ModelNodes_0, List.drop_length]
    simp [b_law08_ModelNodes_0, spS]
  | succ k ih =>
    intro i n h hi h0 h1
    have hlt : i < l.length := by omega
    have hw := wrap_succ hlt (by omega)
    have hs := hr _ (List.getElem_mem hlt)
    rw [List.drop_eq_getElem_cons hlt] at h1 ⊢
    simp only [spS] at h1 ⊢
    have hnn := spS_nn (l := l.drop (i + 1)) fun s hs => hr s (List.mem_of_mem_drop hs)
    have w1 : IntKind.i64.wrap (l[i].hi - l[i].lo) = l[i].hi - l[i].lo := wrap64 (by omega) (by omega)
    have w2 : IntKind.i64.wrap (l[i].hi - l[i].lo + 1) = l[i].hi - l[i].lo + 1 := wrap64 (by omega) (by omega)
    have w3 : IntKind.u64.wrap (l[i].hi - l[i].lo + 1) = l[i].hi - l[i].lo + 1 := wrapU (by omega) (by omega)
    have w4 : IntKind.u64.wrap (n + (l[i].hi - l[i].lo + 1)) = n + (l[i].hi - l[i].lo + 1) := wrapU (by omega) (by omega)
    obtain ⟨h', ih⟩ := ih (i + 1) (n + (l[i].hi - l[i].lo + 1)) (h ++ [.row 2 [spV l[i]]]) (by omega) (by omega) (by omega)
    refine ⟨h', ?_⟩
    simp only [Int.natCast_add, Int.cast_ofNat_Int] at ih
    rw [r_law08_ModelNodes_0, ← Int.add_assoc, ← ih]
    simp [b_law08_ModelNodes_0, hlt, w1, w2, w3, w4, hw]
/-- what is known on the way -/
structure Way (n rows all P : Int) (i : Nat) (r : List Decl) : Prop where
  r1 : 1 ≤ rows
  rp : rows ≤ P
  ap : all ≤ P
  a0 : 1 ≤ all
  ab : all ≤ 1 + i * 72057594037927936
  rb : rows ≤ 72057594037927936
  nn : (n = prodN (2 * P) r ∧ 2 * P ≤ topI) ∨ n = topI
theorem nodes_l1 (n : Int) (hn0 : 0 ≤ n) (hn1 : n ≤ topI) (ds : List Decl) (hd : ∀ d ∈ ds, declOK d) (hk : ∀ d ∈ ds, spR none d.dom = true ∧ 1 ≤ spN d.dom ∧ spN d.dom ≤ 64) (hl : ds.length ≤ 16) : ∀ (k i : Nat) (rows all P : Int) (h : List Ob), i + k = ds.length → Way n rows all P i (ds.drop i) →
    ∃ fr' h', (evw C i_law08_ModelNodes_l1 [(3, iv n), (4, uv rows), (5, uv all), (23, declsV ds), (24, iv ds.length), (25, iv i)] h = some (.ext 0, fr', h') ∧ get fr' 3 = iv n ∧ ∃ a, get fr' 5 = uv a ∧ a ≤ n.tdiv 2 + 1 ∧ 0 < n) ∨ evw C i_law08_ModelNodes_l1 [(3, iv n), (4, uv rows), (5, uv all), (23, declsV ds), (24, iv ds.length), (25, iv i)] h = some (.ret, [(2, .bool true)], h') := by
  intro k
  induction k with
  | zero =>
    intro i rows all P h hi W
    have : i = ds.length := by omega
    subst this
    rw [List.drop_length] at W
    have e2 : n.tdiv 2 = n / 2 := Int.tdiv_eq_ediv_of_nonneg hn0
    have hab := W.ab
    have htop : topI = 9223372036854775807 := rfl
    refine ⟨[(3, iv n), (4, uv rows), (5, uv all), (23, declsV ds), (24, iv ds.length), (25, iv ds.length), (26, .bool false)], h, .inl ⟨?_, rfl, all, rfl, ?_, ?_⟩⟩
    · rw [r_law08_ModelNodes_1]
      simp [b_law08_ModelNodes_1]
    · rw [e2]
      rcases W.nn with ⟨e, _⟩ | e
      · have := W.ap
        simp only [prodN] at e
        omega
      · omega
    · rcases W.nn with ⟨e, _⟩ | e
      · have := W.rp
        have := W.r1
        simp only [prodN] at e
        omega
      · omega
  | succ k ih =>
    intro i rows all P h hi W
    have hlt : i < ds.length := by omega
    have hw := wrap_succ hlt (by omega)
    obtain ⟨hr, hk1, hk2⟩ := hk _ (List.getElem_mem hlt)
    have hdl := (hd _ (List.getElem_mem hlt)).2
    have hsp : spS ds[i].dom = spN ds[i].dom := by unfold spN; rw [if_pos hr]
    have hall := spR_all hr
    obtain ⟨h1, l0⟩ := nodes_l0 ds[i].dom hdl hall (iv n) (uv rows) (uv all) (declsV ds) (iv ds.length) (iv i) ds[i].dom.length 0 0 (h ++ [.row 2 [declV ds[i]]]) (by omega) (by omega) (by rw [List.drop_zero, hsp]; omega)
    simp only [List.drop_zero, Int.cast_ofNat_Int, hsp, Int.zero_add] at l0
    have htop : topI = 9223372036854775807 := rfl
    have W1 := W.r1
    have W2 := W.rp
    have W3 := W.ap
    have W4 := W.a0
    have W5 := W.ab
    have W6 := W.rb
    have hdrop := List.drop_eq_getElem_cons hlt
    by_cases c : 1125899906842624 < rows
    · have hbig : 1125899906842624 < n := by
        rcases W.nn with ⟨e, hP⟩ | e
        · have := prodN_ge (ds.drop i) (2 * P) (by omega) hP
          omega
        · omega
      refine ⟨[], h1, .inr ?_⟩
      rw [r_law08_ModelNodes_1]
      simp [b_law08_ModelNodes_1, hlt, l0, c, hbig]
    · have e1 : rows * spN ds[i].dom ≤ 1125899906842624 * 64 := Int.mul_le_mul (by omega) hk2 (by omega) (by omega)
      have e2 : 1 ≤ rows * spN ds[i].dom := by
        have := Int.mul_le_mul W1 hk1 (by omega) (by omega)
        omega
      have e3 : rows * spN ds[i].dom ≤ P * spN ds[i].dom := Int.mul_le_mul_of_nonneg_right W2 (by omega)
      have e4 : P * (spN ds[i].dom + 1) = P * spN ds[i].dom + P := by rw [Int.mul_add, Int.mul_one]
      have w1 : IntKind.u64.wrap (rows * spN ds[i].dom) = rows * spN ds[i].dom := wrapU (by omega) (by omega)
      have hi16 : (i : Int) ≤ 16 := by omega
      have w2 : IntKind.u64.wrap (all + rows * spN ds[i].dom) = all + rows * spN ds[i].dom := wrapU (by omega) (by omega)
      have W' : Way n (rows * spN ds[i].dom) (all + rows * spN ds[i].dom) (P * (spN ds[i].dom + 1)) (i + 1) (ds.drop (i + 1)) := by
        refine ⟨e2, by omega, by omega, by omega, ?_, by omega, ?_⟩
        · rw [Int.natCast_add]
          omega
        · rcases W.nn with ⟨e, hP⟩ | e
          · rw [hdrop] at e
            simp only [prodN] at e
            have e5 : 2 * P * (spN ds[i].dom + 1) = 2 * (P * (spN ds[i].dom + 1)) := by rw [Int.mul_assoc]
            rw [e5] at e
            split at e
            · rename_i hc
              exact .inl ⟨e, hc⟩
            · exact .inr e
          · exact .inr e
      obtain ⟨fr', h', ih⟩ := ih (i + 1) _ _ _ h1 (by omega) W'
      refine ⟨fr', h', ?_⟩
      simp only [Int.natCast_add, Int.cast_ofNat_Int] at ih
      have step : evw C i_law08_ModelNodes_l1 [(3, iv n), (4, uv rows), (5, uv all), (23, declsV ds), (24, iv ds.length), (25, iv i)] h = evw C i_law08_ModelNodes_l1 [(3, iv n), (4, uv (rows * spN ds[i].dom)), (5, uv (all + rows * spN ds[i].dom)), (23, declsV ds), (24, iv ds.length), (25, iv ((i : Int) + 1))] h1 := by
        rw [r_law08_ModelNodes_1]
        simp [b_law08_ModelNodes_1, hlt, l0, c, w1, w2, hw]
      rw [step]
      exact ih
theorem nodesLaw (m : Mod) (h : List Ob) : acw C n_law08_ModelNodes [modV m] h = some (.ret (.bool true), h) := by
  refine acw_ex (v := .bool true) (CT T_law08_ModelNodes) rfl rfl (fun _ => rfl) (by simp) ?_
  have k0 := awake
  have k1 := large m
  rcases Bool.eq_false_or_eq_true (largeB m) with e1 | e1 <;> rw [e1] at k1
  · simp [runW_fin, F_law08_ModelNodes, i_law08_ModelNodes, k0, k1]
  have hm := largeB_ok e1
  have k2 := check m hm
  by_cases c : checkB m = 0
  · rw [c] at k2
    have k3 := nodes m hm
    have k4 := vars m hm
    have hv : ∀ d ∈ varsOf m.blocks, declOK d := by
      intro d hd
      obtain ⟨b, hb, hd⟩ := List.mem_flatMap.1 hd
      exact (hm.2.2.2 b hb).2.2.2 d hd
    have hc := c
    unfold checkB at hc
    split at hc
    · exact absurd hc (by decide)
    rename_i hbig
    split at hc
    · exact absurd hc (by decide)
    split at hc
    · exact absurd hc (by decide)
    split at hc
    · exact absurd hc (by decide)
    split at hc
    · exact absurd hc (by decide)
    rename_i harg
    have hlen : (varsOf m.blocks).length ≤ 16 := by
      unfold bigB at hbig
      simp only [Bool.or_eq_true, decide_eq_true_eq, not_or] at hbig
      omega
    have hk : ∀ d ∈ varsOf m.blocks, spR none d.dom = true ∧ 1 ≤ spN d.dom ∧ spN d.dom ≤ 64 := by
      intro d hd
      have := any_false (Bool.eq_false_iff.2 harg) d hd
      unfold argB at this
      simp only [Bool.or_eq_false_iff, decide_eq_false_iff_not] at this
      refine ⟨?_, by omega, by omega⟩
      by_cases hr : spR none d.dom = true
      · exact hr
      · exfalso
        have : spN d.dom = 0 := by unfold spN; rw [if_neg hr]
        omega
    have hnb : nodesB m = prodN 2 (varsOf m.blocks) := by unfold nodesB; rw [if_pos c]
    have hn1 : nodesB m ≤ topI := by
      rw [hnb]
      have key : ∀ (l : List Decl) (q : Int), q ≤ topI → prodN q l ≤ topI := by
        intro l
        induction l with
        | nil => intro q h; exact h
        | cons d r ih =>
          intro q h
          simp only [prodN]
          split
          · rename_i hc; exact ih _ hc
          · exact Int.le_refl _
      exact key _ _ (by decide)
    have hn0 : 2 ≤ nodesB m := by rw [hnb]; exact prodN_ge _ _ (by omega) (by decide)
    have htop : topI = 9223372036854775807 := rfl
    have w1 : IntKind.u64.wrap (nodesB m) = nodesB m := wrapU (by omega) (by omega)
    have hq : 0 ≤ (nodesB m).tdiv 2 ∧ (nodesB m).tdiv 2 ≤ nodesB m := by
      rw [Int.tdiv_eq_ediv_of_nonneg (by omega)]
      omega
    have w2 : IntKind.u64.wrap ((nodesB m).tdiv 2) = (nodesB m).tdiv 2 := wrapU (by omega) (by omega)
    have w3 : IntKind.u64.wrap ((nodesB m).tdiv 2 + 1) = (nodesB m).tdiv 2 + 1 := wrapU (by omega) (by omega)
    obtain ⟨fr', h', ⟨q1, q2, a, q3, q4, q5⟩ | q1⟩ := nodes_l1 (nodesB m) (by omega) hn1 (varsOf m.blocks) hv hk hlen (varsOf m.blocks).length 0 1 1 1 [.row 2 [modV m]] (by omega) ⟨by omega, by omega, by omega, by omega, by omega, by omega, .inl ⟨by rw [hnb]; rfl, by decide⟩⟩
    · simp only [Int.cast_ofNat_Int] at q1
      simp [runW_fin, F_law08_ModelNodes, i_law08_ModelNodes, k0, k1, k2, k3, k4, q1, q2, q3, q4, q5, w1, w2, w3, ine]
    · simp only [Int.cast_ofNat_Int] at q1
      simp [runW_fin, F_law08_ModelNodes, i_law08_ModelNodes, k0, k1, k2, k3, k4, q1, ine]
  · simp [runW_fin, F_law08_ModelNodes, i_law08_ModelNodes, k0, k1, k2, c, ine]
end Go.RR.M
