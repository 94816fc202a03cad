/- The law on what is shared. -/
import Derived.Test.YtkbdlifjhcmgbaaDoorRT2
set_option linter.unusedVariables false
set_option linter.unusedSimpArgs false
set_option linter.unusedVariables false
set_option linter.unusedSimpArgs false
set_option maxRecDepth 100000
set_option maxHeartbeats 4000000
namespace Go.RR.M
open Go Go.RR Go.Lib
theorem one_of (S : List Nd) (i : Nat) (hi : i < S.length) : List.drop i (List.take (i + 1) (List.map nodeV S)) = [nodeV S[i]] := by
  rw [List.drop_take, List.drop_eq_getElem_cons (by simpa using hi)]
  simp
theorem sh_l0 (S : List Nd) (hS : S.length ≤ 100000) (hk : ∀ n ∈ S, n.kids.length ≤ 4611686018427387904) (hd : ∀ i j (hi : i < S.length) (hj : j < S.length), S[i] = S[j] → i = j) (i : Nat) (hi : i < S.length) : ∀ (d k : Nat), k + d = i →
    evw C y0 i_law19_TreeShares_l0 [(3, treeV S), (4, iv i), (69, iv S.length), (70, iv i), (73, iv i), (74, iv k)] [] = some (.ext 2, [(3, treeV S), (4, iv i), (69, iv S.length), (70, iv i), (73, iv i), (74, iv i), (75, .bool false)], [])
  | 0, k, e => by
    obtain rfl : k = i := by omega
    rw [r_law19_TreeShares_0]
    simp [b_law19_TreeShares_0]
  | d + 1, k, e => by
    have hlt : k < S.length := by omega
    have h2 : (k : Int) < i := by omega
    have h2n : k < i := by omega
    have hw := wrap_succ (i := k) (n := S.length) hlt (by omega)
    have hwi := wrap_succ (i := i) (n := S.length) hi (by omega)
    have ih := sh_l0 S hS hk hd i hi d (k + 1) (by omega)
    simp only [Int.natCast_add, Int.cast_ofNat_Int] at ih
    have o1 := one_of S i hi
    have o2 := one_of S k hlt
    have ko1 := law19_Own [S[i]] (by simp)
    have ko2 := law19_Own [S[k]] (by simp)
    have ke := ref19_Equal [S[i]] [S[k]] (by simp) (fun n hn => by rw [List.mem_singleton.1 hn]; exact hk _ (List.getElem_mem hi))
    have hne : ¬ (S[i] = S[k]) := fun e => by have := hd i k hi hlt e; omega
    have e0 : decide ([S[i]] = [S[k]]) = false := by simp [hne]
    rw [e0] at ke
    generalize S[i] = si at *
    generalize S[k] = sk at *
    have c1 : (i : Int) + 1 ≤ S.length := by omega
    have c2 : (k : Int) + 1 ≤ S.length := by omega
    have c3 : (i : Int) ≤ (i : Int) + 1 := by omega
    have c4 : (k : Int) ≤ (k : Int) + 1 := by omega
    have n1 : ((i : Int) + 1).toNat = i + 1 := by omega
    have n2 : ((k : Int) + 1).toNat = k + 1 := by omega
    have ko1 : ∀ h, acw C n_law19_Own [.sl 3 [nodeV si]] h = some (.ret (.sl 3 [nodeV si]), h) := ko1
    have ko2 : ∀ h, acw C n_law19_Own [.sl 3 [nodeV sk]] h = some (.ret (.sl 3 [nodeV sk]), h) := ko2
    have ke : ∀ h, acw C n_ref19_Equal [.sl 3 [nodeV si], .sl 3 [nodeV sk]] h = some (.ret (.bool false), h) := ke
    rw [r_law19_TreeShares_0, ← ih]
    simp [b_law19_TreeShares_0, h2, h2n, hlt, hw, hwi, bounds, c1, c2, c3, c4, n1, n2, o1, o2, ko1, ko2, ke]
theorem sh_l1 (S : List Nd) (hS : S.length ≤ 100000) (hk : ∀ n ∈ S, n.kids.length ≤ 4611686018427387904) (hd : ∀ i j (hi : i < S.length) (hj : j < S.length), S[i] = S[j] → i = j) : ∀ (d i : Nat), i + d = S.length →
    evw C y0 i_law19_TreeShares_l1 [(3, treeV S), (69, iv S.length), (70, iv i)] [] = some (.ext 0, [(3, treeV S), (69, iv S.length), (70, iv S.length), (71, .bool false)], [])
  | 0, i, e => by
    obtain rfl : i = S.length := by omega
    rw [r_law19_TreeShares_1]
    simp [b_law19_TreeShares_1]
  | d + 1, i, e => by
    have hlt : i < S.length := by omega
    have h2 : (i : Int) < S.length := by omega
    have hw := wrap_succ (i := i) (n := S.length) hlt (by omega)
    have ih := sh_l1 S hS hk hd d (i + 1) (by omega)
    simp only [Int.natCast_add, Int.cast_ofNat_Int] at ih
    have l0 : evw C y0 i_law19_TreeShares_l0 [(3, treeV S), (4, iv i), (69, iv S.length), (70, iv i), (73, iv i), (74, iv 0)] [] = _ := sh_l0 S hS hk hd i hlt i 0 (by omega)
    rw [r_law19_TreeShares_1, ← ih]
    simp [b_law19_TreeShares_1, h2, hlt, l0, hw]
theorem shares (t : List Nd) (h : List Ob) : acw C n_law19_TreeShares [treeV t] h = some (.ret (.bool true), h) := by
  refine acw_ex (v := .bool true) (CT T_law19_TreeShares) rfl rfl (fun _ => rfl) (by simp) ?_
  have kaw := awake
  by_cases c : 200 < t.length
  · have ci : (200 : Int) < t.length := by omega
    simp [runW_fin, F_law19_TreeShares, i_law19_TreeShares, kaw, c, ci]
  · have ci : ¬ ((200 : Int) < t.length) := by omega
    have la : t.length ≤ 200 := by omega
    have hsl := shareT_len la
    have km := tree_May t (by omega)
    have kS := tree_Size t (by omega)
    have kD := tree_Depth t (by omega)
    have kH := tree_Share t (by omega)
    cases hm : mayT t with
    | false =>
      rw [hm] at km
      have e1 : sizeT t = 0 := by unfold sizeT; rw [hm]; rfl
      have e2 : depthT t = 0 := by unfold depthT; rw [hm]; rfl
      have e3 : shareT t = [] := share_no hm
      rw [e1] at kS
      rw [e2] at kD
      rw [e3] at kH
      have kH : ∀ h, acw C n_tree_Share [treeV t] h = some (.ret (.sl 3 []), h) := kH
      simp [runW_fin, F_law19_TreeShares, i_law19_TreeShares, kaw, c, ci, km, kS, kD, kH]
    | true =>
      rw [hm] at km
      have hms := share_may hm
      have hbs : (shareT t).length ≤ 4611686018427387904 ∧ ∀ n ∈ shareT t, n.kids.length ≤ 4611686018427387904 := ⟨by omega, shareT_kids t⟩
      have kms := tree_May (shareT t) hbs.1
      rw [hms] at kms
      have kM := tree_Same (shareT t) t hbs.1 (by omega)
      have e3 : sameT (shareT t) t = true := by
        rw [sameT_eq, hms, hm, root_share hm]
        simp
      rw [e3] at kM
      have kSs := tree_Size (shareT t) hbs.1
      have kDs := tree_Depth (shareT t) hbs.1
      have e1 : sizeT (shareT t) = sizeT t := by unfold sizeT; rw [if_pos hms, if_pos hm]; show foldU G1 (rootU (shareT t)) = foldU G1 (rootU t); rw [root_share hm]
      have e2 : depthT (shareT t) = depthT t := by unfold depthT; rw [if_pos hms, if_pos hm]; show foldU G2 (rootU (shareT t)) = foldU G2 (rootU t); rw [root_share hm]
      rw [e1] at kSs
      rw [e2] at kDs
      have kHs := tree_Share (shareT t) hbs.1
      rw [share_share hm] at kHs
      have ko := law19_Own (shareT t) (by omega)
      have ke := ref19_Equal (shareT t) (shareT t) hbs.1 hbs.2
      have hle := share_len hm
      have l1 := sh_l1 (shareT t) (by omega) hbs.2 (share_spec hm).1.nodup (shareT t).length 0 (by omega)
      simp only [decide_true, Int.cast_ofNat_Int] at ke l1
      generalize shareT t = S at *
      have c2 : ¬ ((t.length : Int) < S.length) := by omega
      have c2n : ¬ (t.length < S.length) := by omega
      simp [runW_fin, F_law19_TreeShares, i_law19_TreeShares, kaw, c, ci, km, kS, kD, kH, kms, kM, kSs, kDs, kHs, ko, ke, c2, c2n, l1, ieq, ine]
end Go.RR.M
