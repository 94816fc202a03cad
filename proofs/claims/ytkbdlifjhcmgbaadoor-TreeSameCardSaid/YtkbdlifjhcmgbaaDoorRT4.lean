/- The law on trees that are the same. -/
import Derived.Test.YtkbdlifjhcmgbaaDoorRT2
set_option linter.unusedVariables false
set_option linter.unusedSimpArgs false
set_option linter.unusedVariables false
set_option linter.unusedSimpArgs false
set_option maxRecDepth 100000
set_option maxHeartbeats 4000000
namespace Go.RR
theorem share_bd {t : List Nd} (h : t.length ≤ 200) : (shareT t).length ≤ 4611686018427387904 ∧ ∀ n ∈ shareT t, n.kids.length ≤ 4611686018427387904 := ⟨by have := shareT_len h; omega, shareT_kids t⟩
theorem Good.pre {O : List Nd} {n : Nd} (g : Good (O ++ [n])) : Good O := ⟨g.ahd.pre, fun i j hi hj e => g.nodup i j (by simp; omega) (by simp; omega) (by rw [List.getElem_append_left hi, List.getElem_append_left hj]; exact e)⟩
theorem size_pos {t : List Nd} (hm : mayT t = true) : 1 ≤ M.sizeT t ∧ M.sizeT t ≤ top := by
  unfold M.sizeT
  rw [if_pos hm]
  exact foldU_pos _
theorem depth_pos {t : List Nd} (hm : mayT t = true) : 1 ≤ M.depthT t ∧ M.depthT t ≤ 100000 := by
  unfold M.depthT
  rw [if_pos hm]
  have h1 := (mayT_len hm)
  have := bound2 (mayT_ahd hm) (t.length - 1) (by omega)
  omega
end Go.RR
namespace Go.RR.M
open Go Go.RR Go.Lib
theorem wrap_over {n : Int} (h1 : 9223372036854775807 < n) (h2 : n ≤ 18446744073709551614) : IntKind.i64.wrap n = n - 18446744073709551616 := by
  simp [IntKind.wrap, IntKind.signed, IntKind.bits, Int.bmod]
  omega
theorem same (a b : List Nd) (kind pick : Int) (h : List Ob) : acw C n_law19_TreeSame [treeV a, treeV b, iv kind, iv pick] h = some (.ret (.bool true), h) := by
  refine acw_ex (v := .bool true) (CT T_law19_TreeSame) rfl rfl (fun _ => rfl) (by simp) ?_
  have kaw := awake
  by_cases c1 : 200 < a.length
  · have ci : (200 : Int) < a.length := by omega
    simp [runW_fin, F_law19_TreeSame, i_law19_TreeSame, kaw, c1, ci]
  have ci1 : ¬ ((200 : Int) < a.length) := by omega
  by_cases c2 : 200 < b.length
  · have ci : (200 : Int) < b.length := by omega
    simp [runW_fin, F_law19_TreeSame, i_law19_TreeSame, kaw, c1, ci1, c2, ci]
  have ci2 : ¬ ((200 : Int) < b.length) := by omega
  have la : a.length ≤ 200 := by omega
  have lb : b.length ≤ 200 := by omega
  have km1 := tree_May a (by omega)
  have km2 := tree_May b (by omega)
  have kM1 := tree_Same a b (by omega) (by omega)
  have kM2 := tree_Same b a (by omega) (by omega)
  have kM3 := tree_Same a a (by omega) (by omega)
  cases hm1 : mayT a with
  | false =>
    rw [hm1] at km1
    have e1 : sameT a b = false := by rw [sameT_eq, hm1]; rfl
    have e2 : sameT b a = false := by rw [sameT_eq, hm1]; simp
    rw [e1] at kM1
    rw [e2] at kM2
    simp [runW_fin, F_law19_TreeSame, i_law19_TreeSame, kaw, c1, ci1, c2, ci2, km1, kM1, kM2]
  | true =>
    rw [hm1] at km1
    cases hm2 : mayT b with
    | false =>
      rw [hm2] at km2
      have e1 : sameT a b = false := by rw [sameT_eq, hm2]; simp
      have e2 : sameT b a = false := by rw [sameT_eq, hm2]; rfl
      rw [e1] at kM1
      rw [e2] at kM2
      simp [runW_fin, F_law19_TreeSame, i_law19_TreeSame, kaw, c1, ci1, c2, ci2, km1, km2, kM1, kM2]
    | true =>
      rw [hm2] at km2
      have kH1 := tree_Share a (by omega)
      have kH2 := tree_Share b (by omega)
      have hx := share_bd la
      have hy := share_bd lb
      have ko1 := law19_Own (shareT a) (by have := shareT_len la; omega)
      have ko2 := law19_Own (shareT b) (by have := shareT_len lb; omega)
      have ke := ref19_Equal (shareT a) (shareT b) hx.1 hx.2
      have hs := share_root hm1 hm2
      have e1 : sameT a b = decide (shareT a = shareT b) := by
        rw [sameT_eq, hm1, hm2]
        by_cases c : rootU a = rootU b
        · simp [c, hs.2 c]
        · have : ¬ (shareT a = shareT b) := fun q => c (hs.1 q)
          simp [c, this]
      have e2 : sameT b a = decide (shareT a = shareT b) := by
        rw [sameT_eq, hm1, hm2]
        by_cases c : rootU a = rootU b
        · simp [c, hs.2 c]
        · have : ¬ (shareT a = shareT b) := fun q => c (hs.1 q)
          have c' : ¬ (rootU b = rootU a) := fun q => c q.symm
          simp [c', this]
      have e3 : sameT a a = true := by rw [sameT_eq, hm1]; simp
      rw [e1] at kM1
      rw [e2] at kM2
      rw [e3] at kM3
      have hl2 : ∀ t ∈ [a, b], t.length ≤ 1000 := by simp; omega
      have hl2' : ∀ t ∈ [shareT a, shareT b], t.length ≤ 1000 := by have := shareT_len la; have := shareT_len lb; simp; omega
      have kp := tree_Plant kind pick [a, b] hl2 (by simp)
      have kq := tree_Plant kind pick [shareT a, shareT b] hl2' (by simp)
      have epo : plOK kind pick [shareT a, shareT b] = plOK kind pick [a, b] := by simp [plOK, hm1, hm2, share_may hm1, share_may hm2]
      have epu : plU kind pick [shareT a, shareT b] = plU kind pick [a, b] := by simp [plU, root_share hm1, root_share hm2]
      have ept : plT kind pick [shareT a, shareT b] = plT kind pick [a, b] := by unfold plT; rw [epo, epu]
      have epe : plE kind pick [shareT a, shareT b] = plE kind pick [a, b] := by unfold plE; rw [epo]
      rw [ept, epe] at kq
      have hpl := plT_len (kind := kind) (pick := pick) hl2
      have hpk := plT_kids (kind := kind) (pick := pick) hl2
      have kop := law19_Own (plT kind pick [a, b]) (by omega)
      have kep := ref19_Equal (plT kind pick [a, b]) (plT kind pick [a, b]) (by omega) hpk
      have b2 : bsfL (.nsl 3) [treeV a, treeV b] = some (.sl 1 [treeV a, treeV b]) := rfl
      have b3 : bsfL (.nsl 3) [treeV (shareT a), treeV (shareT b)] = some (.sl 1 [treeV (shareT a), treeV (shareT b)]) := rfl
      simp only [decide_true, List.map_cons, List.map_nil] at kp kq kep
      cases hp : plOK kind pick [a, b] with
      | false =>
        have f1 : plT kind pick [a, b] = [] := by unfold plT; rw [hp, if_neg (by simp)]
        have f2 : plE kind pick [a, b] = 1 := by unfold plE; rw [hp, if_neg (by simp)]
        rw [f1, f2] at kp kq
        rw [f1] at kop kep
        have kop : ∀ h, acw C n_law19_Own [.sl 3 []] h = some (.ret (.sl 3 []), h) := kop
        have kep : ∀ h, acw C n_ref19_Equal [.sl 3 [], .sl 3 []] h = some (.ret (.bool true), h) := kep
        have kp : ∀ h, acw C n_tree_Plant [iv kind, iv pick, .sl 1 [treeV a, treeV b]] h = some (.ret (.tup [.sl 3 [], iv 1]), h) := kp
        have kq : ∀ h, acw C n_tree_Plant [iv kind, iv pick, .sl 1 [treeV (shareT a), treeV (shareT b)]] h = some (.ret (.tup [.sl 3 [], iv 1]), h) := kq
        generalize shareT a = x at *
        generalize shareT b = y at *
        simp [runW_fin, F_law19_TreeSame, i_law19_TreeSame, kaw, c1, ci1, c2, ci2, km1, km2, kM1, kM2, kM3, kH1, kH2, ko1, ko2, ke, kp, kq, kop, kep, b2, b3, ieq, ine]
      | true =>
        have f2 : plE kind pick [a, b] = 0 := by unfold plE; rw [if_pos hp]
        rw [f2] at kp kq
        obtain ⟨O, ks, eP, g, g2, g3, g4⟩ := plT_last hp
        obtain ⟨hmP, hrP⟩ := plT_may hp (by omega)
        have hksl : ks.length = 2 := by have := congrArg List.length g3; simpa using this
        obtain ⟨k0, k1, rfl⟩ : ∃ k0 k1, ks = [k0, k1] := by
          match ks, hksl with
          | [k0, k1], _ => exact ⟨k0, k1, rfl⟩
        simp only [List.map_cons, List.map_nil, List.cons.injEq, and_true] at g3
        have b0 := g2 k0 (by simp)
        have b1 := g2 k1 (by simp)
        have gO := g.pre
        have ek : (k0 = k1) ↔ (shareT a = shareT b) := by
          rw [hs, ← g3.1, ← g3.2]
          constructor
          · intro q; rw [q]
          · intro q
            have := Good.inj gO O.length k0.toNat k1.toNat (by omega) (by omega) (by omega) (by omega) q
            omega
        have kS1 := tree_Size a (by omega)
        have kS2 := tree_Size b (by omega)
        have kSp := tree_Size (plT kind pick [a, b]) (by omega)
        have kD1 := tree_Depth a (by omega)
        have kD2 := tree_Depth b (by omega)
        have kDp := tree_Depth (plT kind pick [a, b]) (by omega)
        have eS : sizeT (plT kind pick [a, b]) = sat (sat 1 (sizeT a)) (sizeT b) := by
          have q1 : sizeT a = foldU G1 (rootU a) := by unfold sizeT; rw [if_pos hm1]; rfl
          have q2 : sizeT b = foldU G1 (rootU b) := by unfold sizeT; rw [if_pos hm2]; rfl
          have q3 : sizeT (plT kind pick [a, b]) = foldU G1 (rootU (plT kind pick [a, b])) := by unfold sizeT; rw [if_pos hmP]; rfl
          rw [q3, hrP, q1, q2]
          rfl
        have eD : depthT (plT kind pick [a, b]) = mxd (mxd 1 (depthT a)) (depthT b) := by
          have q1 : depthT a = foldU G2 (rootU a) := by unfold depthT; rw [if_pos hm1]; rfl
          have q2 : depthT b = foldU G2 (rootU b) := by unfold depthT; rw [if_pos hm2]; rfl
          have q3 : depthT (plT kind pick [a, b]) = foldU G2 (rootU (plT kind pick [a, b])) := by unfold depthT; rw [if_pos hmP]; rfl
          rw [q3, hrP, q1, q2]
          rfl
        obtain ⟨s1a, s1b⟩ := size_pos hm1
        obtain ⟨s2a, s2b⟩ := size_pos hm2
        obtain ⟨d1a, d1b⟩ := depth_pos hm1
        obtain ⟨d2a, d2b⟩ := depth_pos hm2
        rw [eS] at kSp
        rw [eD] at kDp
        have hPl : (plT kind pick [a, b]).length = O.length + 1 := by rw [eP]; simp
        have hP3 : (plT kind pick [a, b])[O.length]? = some ⟨kind, pick, [k0, k1]⟩ := by rw [eP]; simp
        clear hs g3 g4 g2 g gO eS eD hrP hmP eP
        generalize plT kind pick [a, b] = P at *
        generalize shareT a = x at *
        generalize shareT b = y at *
        generalize sizeT a = s1 at *
        generalize sizeT b = s2 at *
        generalize depthT a = d1 at *
        generalize depthT b = d2 at *
        generalize O.length = m at *
        have hP4 : ∀ h : m < P.length, P[m]'h = ⟨kind, pick, [k0, k1]⟩ := fun _ => (List.getElem?_eq_some_iff.1 hP3).2
        have hP5 : ¬ (P.length = 0) := by omega
        have hP6 : ¬ (P = []) := fun q => by rw [q] at hPl; simp at hPl
        have hP7 : ¬ ((m : Int) + 1 = 0) := by omega
        have w1 : IntKind.i64.wrap (m : Int) = m := wrap64 (by omega) (by omega)
        have eMx : mxd (mxd 1 d1) d2 = 1 + (if d1 < d2 then d2 else d1) := by
          unfold mxd
          split <;> split <;> split <;> omega
        have wD : IntKind.i64.wrap (1 + (if d1 < d2 then d2 else d1)) = 1 + (if d1 < d2 then d2 else d1) := wrap64 (by split <;> omega) (by split <;> omega)
        rw [eMx] at kDp
        obtain ⟨sm, hsm⟩ : ∃ sm, sm = sat (sat 1 s1) s2 := ⟨_, rfl⟩
        rw [← hsm] at kSp
        have ht : s1 ≤ 9223372036854775807 ∧ s2 ≤ 9223372036854775807 := ⟨s1b, s2b⟩
        have fin3 : ∀ T, IntKind.i64.wrap (s1 + s2) = T → (T < 0 ∨ 2305843009213693952 < T ∨ (¬ (T < 0) ∧ ¬ (2305843009213693952 < T) ∧ sm = T + 1 ∧ IntKind.i64.wrap (T + 1) = T + 1)) := by
          intro T hT
          by_cases ct : s1 + s2 ≤ 9223372036854775807
          · rw [wrap64 (by omega) ct] at hT
            by_cases c5 : 2305843009213693952 < T
            · exact .inr (.inl c5)
            · refine .inr (.inr ⟨by omega, c5, ?_, wrap64 (by omega) (by omega)⟩)
              have e1 : sat 1 s1 = 1 + s1 := by unfold sat top; rw [if_neg (by omega)]
              rw [hsm, e1]
              unfold sat top
              rw [if_neg (by omega)]
              omega
          · left
            rw [← hT]
            have : IntKind.i64.wrap (s1 + s2) = s1 + s2 - 18446744073709551616 := wrap_over (by omega) (by omega)
            omega
        obtain ⟨T, hT⟩ : ∃ T, IntKind.i64.wrap (s1 + s2) = T := ⟨_, rfl⟩
        by_cases cd : d1 < d2
        · rw [if_pos cd] at wD kDp
          rcases fin3 T hT with q | q | ⟨q1, q2, q3, q4⟩
          · simp [runW_fin, F_law19_TreeSame, i_law19_TreeSame, kaw, c1, ci1, c2, ci2, km1, km2, kM1, kM2, kM3, kH1, kH2, ko1, ko2, ke, kp, kq, kop, kep, b2, b3, ieq, ine, kS1, kS2, kSp, kD1, kD2, kDp, hPl, hP3, hP4, hP5, hP6, hP7, w1, wD, hT, cd, ek, q]
          · have q0 : ¬ (T < 0) := by omega
            simp [runW_fin, F_law19_TreeSame, i_law19_TreeSame, kaw, c1, ci1, c2, ci2, km1, km2, kM1, kM2, kM3, kH1, kH2, ko1, ko2, ke, kp, kq, kop, kep, b2, b3, ieq, ine, kS1, kS2, kSp, kD1, kD2, kDp, hPl, hP3, hP4, hP5, hP6, hP7, w1, wD, hT, cd, ek, q, q0]
          · rw [q3] at kSp
            simp [runW_fin, F_law19_TreeSame, i_law19_TreeSame, kaw, c1, ci1, c2, ci2, km1, km2, kM1, kM2, kM3, kH1, kH2, ko1, ko2, ke, kp, kq, kop, kep, b2, b3, ieq, ine, kS1, kS2, kSp, kD1, kD2, kDp, hPl, hP3, hP4, hP5, hP6, hP7, w1, wD, hT, cd, ek, q1, q2, q4]
        · rw [if_neg cd] at wD kDp
          rcases fin3 T hT with q | q | ⟨q1, q2, q3, q4⟩
          · simp [runW_fin, F_law19_TreeSame, i_law19_TreeSame, kaw, c1, ci1, c2, ci2, km1, km2, kM1, kM2, kM3, kH1, kH2, ko1, ko2, ke, kp, kq, kop, kep, b2, b3, ieq, ine, kS1, kS2, kSp, kD1, kD2, kDp, hPl, hP3, hP4, hP5, hP6, hP7, w1, wD, hT, cd, ek, q]
          · have q0 : ¬ (T < 0) := by omega
            simp [runW_fin, F_law19_TreeSame, i_law19_TreeSame, kaw, c1, ci1, c2, ci2, km1, km2, kM1, kM2, kM3, kH1, kH2, ko1, ko2, ke, kp, kq, kop, kep, b2, b3, ieq, ine, kS1, kS2, kSp, kD1, kD2, kDp, hPl, hP3, hP4, hP5, hP6, hP7, w1, wD, hT, cd, ek, q, q0]
          · rw [q3] at kSp
            simp [runW_fin, F_law19_TreeSame, i_law19_TreeSame, kaw, c1, ci1, c2, ci2, km1, km2, kM1, kM2, kM3, kH1, kH2, ko1, ko2, ke, kp, kq, kop, kep, b2, b3, ieq, ine, kS1, kS2, kSp, kD1, kD2, kDp, hPl, hP3, hP4, hP5, hP6, hP7, w1, wD, hT, cd, ek, q1, q2, q4]
end Go.RR.M
