-- Written by a program of this session out of the translation (its base: the print program of the kit), in places turned by hand; Lean checks it.
import Derived.Test.YtblfcmjcdclijaaQSx0
import Derived.Test.YtblfcmjcdclijaaQSx17
import Derived.Test.YtblfcmjcdclijaaQSx18
import Derived.Test.YtblfcmjcdclijaaQSx19
import Derived.Test.YtblfcmjcdclijaaQSx20
namespace Go.Proofs.Ytblfcmjcdclijaa.QS
open Go.RowKit Go.Proofs.YtblfcmjcdclijaaW.PrintWords Go.Proofs.YtblfcmjcdclijaaW.PrintLast Go.Proofs.YtblfcmjcdclijaaW.PrintMore
attribute [local go_sem] max2_int min2_int max_two min_two max_three min_three max_four min_four   -- for this text's walks alone
set_option linter.unusedVariables false
set_option linter.unusedSimpArgs false

/-! ### stratagemref07_Scan: function 30 -/
mutual
def stratagemref07_Scan.l0 : Nat → ByteArray → List (S68) → Int → Option ((List (S68)) × Int × Int)
  | 0, _, _, _ => none
  | k + 1, x0, x5, x6 => if x6 < (x0.size : Int) then (if 0 ≤ x6 then (if (bt x0 x6) = 32 then (stratagemref07_Scan.j1 k x0 x5 (wrap64 (x6 + 1)) x6 true 3 (⟨#[]⟩ : ByteArray) 0 x6) else (stratagemref07_Scan.j1 k x0 x5 (wrap64 (x6 + 1)) x6 ((bt x0 x6) == 10) 3 (⟨#[]⟩ : ByteArray) 0 x6)) else (none)) else (some (x5, 0, 0))
def stratagemref07_Scan.j1 : Nat → ByteArray → List (S68) → Int → Int → Bool → Int → ByteArray → Int → Int → Option ((List (S68)) × Int × Int)
  | 0, _, _, _, _, _, _, _, _, _ => none
  | k + 1, x0, x5, x6, x7, x23, x145000, x145001, x145002, x145003 => if x23 = true then (stratagemref07_Scan.l0 k x0 x5 x6) else (if 0 ≤ x7 then (if x7 < (x0.size : Int) then ((stratagemref07_word.f (bt x0 x7)).bind fun t145 => (if t145 = true then (stratagemref07_Scan.l1 k x0 x5 x6 x7 1 x145001 x145002 x145003) else ((stratagemref07_digit.f (bt x0 x7)).bind fun t154 => (if t154 = true then (stratagemref07_Scan.l2 k x0 x5 x6 x7 2 x145001 x145002 x145003) else (if x6 < (x0.size : Int) then (if 0 ≤ x6 then ((stratagemref07_pair.f (bt x0 x7) (bt x0 x6)).bind fun t159 => (stratagemref07_Scan.j6 k x0 x5 x6 x7 t159 x145000 x145001 x145002 x145003)) else (none)) else (stratagemref07_Scan.j6 k x0 x5 x6 x7 false x145000 x145001 x145002 x145003)))))) else (none)) else (none))
def stratagemref07_Scan.l1 : Nat → ByteArray → List (S68) → Int → Int → Int → ByteArray → Int → Int → Option ((List (S68)) × Int × Int)
  | 0, _, _, _, _, _, _, _, _ => none
  | k + 1, x0, x5, x6, x7, x145000, x145001, x145002, x145003 => if x6 < (x0.size : Int) then (if 0 ≤ x6 then ((stratagemref07_word.f (bt x0 x6)).bind fun t146 => (if t146 = true then (stratagemref07_Scan.l1 k x0 x5 (wrap64 (x6 + 1)) x7 x145000 x145001 x145002 x145003) else ((stratagemref07_digit.f (bt x0 x6)).bind fun t147 => (if t147 = true then (stratagemref07_Scan.l1 k x0 x5 (wrap64 (x6 + 1)) x7 x145000 x145001 x145002 x145003) else (if (bt x0 x6) = 95 then (stratagemref07_Scan.l1 k x0 x5 (wrap64 (x6 + 1)) x7 x145000 x145001 x145002 x145003) else (if 0 ≤ x7 then (if x7 ≤ x6 then (if x6 ≤ (x0.size : Int) then (if x5.length < 3518437208883 then (stratagemref07_Scan.l0 k x0 (x5 ++ [(⟨x145000, x0.extract (x7 : Int).toNat (x6 : Int).toNat, x145002, x145003⟩ : S68)]) x6) else (none)) else (none)) else (none)) else (none))))))) else (none)) else (if 0 ≤ x7 then (if x7 ≤ x6 then (if x6 ≤ (x0.size : Int) then (if x5.length < 3518437208883 then (stratagemref07_Scan.l0 k x0 (x5 ++ [(⟨x145000, x0.extract (x7 : Int).toNat (x6 : Int).toNat, x145002, x145003⟩ : S68)]) x6) else (none)) else (none)) else (none)) else (none))
def stratagemref07_Scan.j4 : Nat → ByteArray → List (S68) → Int → Int → Int → ByteArray → Int → Int → Option ((List (S68)) × Int × Int)
  | 0, _, _, _, _, _, _, _, _ => none
  | k + 1, x0, x5, x6, x7, x145000, x145001, x145002, x145003 => stratagemref07_Scan.l3 k x0 x5 x6 x7 x7 x145000 x145001 x145002 x145003
def stratagemref07_Scan.l3 : Nat → ByteArray → List (S68) → Int → Int → Int → Int → ByteArray → Int → Int → Option ((List (S68)) × Int × Int)
  | 0, _, _, _, _, _, _, _, _, _ => none
  | k + 1, x0, x5, x6, x7, x9, x145000, x145001, x145002, x145003 => if x9 < x6 then (if 0 ≤ x9 then (if x9 < (x0.size : Int) then (if (wrap64 ((wrap64 ((wrap64 (10 * x145002)) + (wrap64 (bt x0 x9)))) - 48)) > 1099511627776 then (some (([] : List (S68)), x7, 5)) else (stratagemref07_Scan.l3 k x0 x5 x6 x7 (wrap64 (x9 + 1)) x145000 x145001 (wrap64 ((wrap64 ((wrap64 (10 * x145002)) + (wrap64 (bt x0 x9)))) - 48)) x145003)) else (none)) else (none)) else (if 0 ≤ x7 then (if x7 ≤ x6 then (if x6 ≤ (x0.size : Int) then (if x5.length < 3518437208883 then (stratagemref07_Scan.l0 k x0 (x5 ++ [(⟨x145000, x0.extract (x7 : Int).toNat (x6 : Int).toNat, x145002, x145003⟩ : S68)]) x6) else (none)) else (none)) else (none)) else (none))
def stratagemref07_Scan.l2 : Nat → ByteArray → List (S68) → Int → Int → Int → ByteArray → Int → Int → Option ((List (S68)) × Int × Int)
  | 0, _, _, _, _, _, _, _, _ => none
  | k + 1, x0, x5, x6, x7, x145000, x145001, x145002, x145003 => if x6 < (x0.size : Int) then (if 0 ≤ x6 then ((stratagemref07_digit.f (bt x0 x6)).bind fun t155 => (if t155 = true then (stratagemref07_Scan.l2 k x0 x5 (wrap64 (x6 + 1)) x7 x145000 x145001 x145002 x145003) else (stratagemref07_Scan.j4 k x0 x5 x6 x7 x145000 x145001 x145002 x145003))) else (none)) else (stratagemref07_Scan.j4 k x0 x5 x6 x7 x145000 x145001 x145002 x145003)
def stratagemref07_Scan.j6 : Nat → ByteArray → List (S68) → Int → Int → Bool → Int → ByteArray → Int → Int → Option ((List (S68)) × Int × Int)
  | 0, _, _, _, _, _, _, _, _, _ => none
  | k + 1, x0, x5, x6, x7, x102, x145000, x145001, x145002, x145003 => if x102 = true then (if 0 ≤ x7 then (if x7 ≤ (wrap64 (x6 + 1)) then (if (wrap64 (x6 + 1)) ≤ (x0.size : Int) then (if x5.length < 3518437208883 then (stratagemref07_Scan.l0 k x0 (x5 ++ [(⟨x145000, x0.extract (x7 : Int).toNat ((wrap64 (x6 + 1)) : Int).toNat, x145002, x145003⟩ : S68)]) (wrap64 (x6 + 1))) else (none)) else (none)) else (none)) else (none)) else (if 0 ≤ x7 then (if x7 < (x0.size : Int) then ((stratagemref07_one.f k (bt x0 x7)).bind fun t163 => (if t163 = true then (if x7 ≤ x6 then (if x6 ≤ (x0.size : Int) then (if x5.length < 3518437208883 then (stratagemref07_Scan.l0 k x0 (x5 ++ [(⟨x145000, x0.extract (x7 : Int).toNat (x6 : Int).toNat, x145002, x145003⟩ : S68)]) x6) else (none)) else (none)) else (none)) else (some (([] : List (S68)), x7, 2)))) else (none)) else (none))
end
def stratagemref07_Scan.f (k : Nat) (a0 : ByteArray) : Option ((List (S68)) × Int × Int) := if (a0.size : Int) > 4000 then (some (([] : List (S68)), 0, 5)) else (stratagemref07_Scan.l0 k a0 (([] : List (S68))) 0)
theorem stratagemref07_Scan.mono_l : ∀ k, (∀ y0 y1 y2, LeO (stratagemref07_Scan.l0 k y0 y1 y2) (stratagemref07_Scan.l0 (k + 1) y0 y1 y2)) ∧ (∀ y0 y1 y2 y3 y4 y5 y6 y7 y8, LeO (stratagemref07_Scan.j1 k y0 y1 y2 y3 y4 y5 y6 y7 y8) (stratagemref07_Scan.j1 (k + 1) y0 y1 y2 y3 y4 y5 y6 y7 y8)) ∧ (∀ y0 y1 y2 y3 y4 y5 y6 y7, LeO (stratagemref07_Scan.l1 k y0 y1 y2 y3 y4 y5 y6 y7) (stratagemref07_Scan.l1 (k + 1) y0 y1 y2 y3 y4 y5 y6 y7)) ∧ (∀ y0 y1 y2 y3 y4 y5 y6 y7, LeO (stratagemref07_Scan.j4 k y0 y1 y2 y3 y4 y5 y6 y7) (stratagemref07_Scan.j4 (k + 1) y0 y1 y2 y3 y4 y5 y6 y7)) ∧ (∀ y0 y1 y2 y3 y4 y5 y6 y7 y8, LeO (stratagemref07_Scan.l3 k y0 y1 y2 y3 y4 y5 y6 y7 y8) (stratagemref07_Scan.l3 (k + 1) y0 y1 y2 y3 y4 y5 y6 y7 y8)) ∧ (∀ y0 y1 y2 y3 y4 y5 y6 y7, LeO (stratagemref07_Scan.l2 k y0 y1 y2 y3 y4 y5 y6 y7) (stratagemref07_Scan.l2 (k + 1) y0 y1 y2 y3 y4 y5 y6 y7)) ∧ (∀ y0 y1 y2 y3 y4 y5 y6 y7 y8, LeO (stratagemref07_Scan.j6 k y0 y1 y2 y3 y4 y5 y6 y7 y8) (stratagemref07_Scan.j6 (k + 1) y0 y1 y2 y3 y4 y5 y6 y7 y8))
  | 0 => ⟨fun _ _ _ r h => by simp [stratagemref07_Scan.l0] at h, fun _ _ _ _ _ _ _ _ _ r h => by simp [stratagemref07_Scan.j1] at h, fun _ _ _ _ _ _ _ _ r h => by simp [stratagemref07_Scan.l1] at h, fun _ _ _ _ _ _ _ _ r h => by simp [stratagemref07_Scan.j4] at h, fun _ _ _ _ _ _ _ _ _ r h => by simp [stratagemref07_Scan.l3] at h, fun _ _ _ _ _ _ _ _ r h => by simp [stratagemref07_Scan.l2] at h, fun _ _ _ _ _ _ _ _ _ r h => by simp [stratagemref07_Scan.j6] at h⟩
  | k + 1 => by
    obtain ⟨ih0, ih1, ih2, ih3, ih4, ih5, ih6⟩ := stratagemref07_Scan.mono_l k
    refine ⟨?_, ?_, ?_, ?_, ?_, ?_, ?_⟩
    · intro y0 y1 y2
      unfold stratagemref07_Scan.l0
      repeat' first
      | (with_reducible exact ih0 _ _ _)
      | (with_reducible exact ih1 _ _ _ _ _ _ _ _ _)
      | (with_reducible exact ih2 _ _ _ _ _ _ _ _)
      | (with_reducible exact ih3 _ _ _ _ _ _ _ _)
      | (with_reducible exact ih4 _ _ _ _ _ _ _ _ _)
      | (with_reducible exact ih5 _ _ _ _ _ _ _ _)
      | (with_reducible exact ih6 _ _ _ _ _ _ _ _ _)
      | (with_reducible exact stratagemref07_one.mono _ _)
      | (with_reducible exact LeO.refl _)
      | (with_reducible exact LeO.none _)
      | (with_reducible refine LeO.ite ?_ ?_)
      | (with_reducible refine LeO.bind ?_ (fun _ => ?_))
      | exact ih0 _ _ _
      | exact ih1 _ _ _ _ _ _ _ _ _
      | exact ih2 _ _ _ _ _ _ _ _
      | exact ih3 _ _ _ _ _ _ _ _
      | exact ih4 _ _ _ _ _ _ _ _ _
      | exact ih5 _ _ _ _ _ _ _ _
      | exact ih6 _ _ _ _ _ _ _ _ _
      | exact stratagemref07_one.mono _ _
      | exact LeO.none _
      | refine LeO.ite ?_ ?_
      | refine LeO.bind ?_ (fun _ => ?_)
    · intro y0 y1 y2 y3 y4 y5 y6 y7 y8
      unfold stratagemref07_Scan.j1
      repeat' first
      | (with_reducible exact ih0 _ _ _)
      | (with_reducible exact ih1 _ _ _ _ _ _ _ _ _)
      | (with_reducible exact ih2 _ _ _ _ _ _ _ _)
      | (with_reducible exact ih3 _ _ _ _ _ _ _ _)
      | (with_reducible exact ih4 _ _ _ _ _ _ _ _ _)
      | (with_reducible exact ih5 _ _ _ _ _ _ _ _)
      | (with_reducible exact ih6 _ _ _ _ _ _ _ _ _)
      | (with_reducible exact stratagemref07_one.mono _ _)
      | (with_reducible exact LeO.refl _)
      | (with_reducible exact LeO.none _)
      | (with_reducible refine LeO.ite ?_ ?_)
      | (with_reducible refine LeO.bind ?_ (fun _ => ?_))
      | exact ih0 _ _ _
      | exact ih1 _ _ _ _ _ _ _ _ _
      | exact ih2 _ _ _ _ _ _ _ _
      | exact ih3 _ _ _ _ _ _ _ _
      | exact ih4 _ _ _ _ _ _ _ _ _
      | exact ih5 _ _ _ _ _ _ _ _
      | exact ih6 _ _ _ _ _ _ _ _ _
      | exact stratagemref07_one.mono _ _
      | exact LeO.none _
      | refine LeO.ite ?_ ?_
      | refine LeO.bind ?_ (fun _ => ?_)
    · intro y0 y1 y2 y3 y4 y5 y6 y7
      unfold stratagemref07_Scan.l1
      repeat' first
      | (with_reducible exact ih0 _ _ _)
      | (with_reducible exact ih1 _ _ _ _ _ _ _ _ _)
      | (with_reducible exact ih2 _ _ _ _ _ _ _ _)
      | (with_reducible exact ih3 _ _ _ _ _ _ _ _)
      | (with_reducible exact ih4 _ _ _ _ _ _ _ _ _)
      | (with_reducible exact ih5 _ _ _ _ _ _ _ _)
      | (with_reducible exact ih6 _ _ _ _ _ _ _ _ _)
      | (with_reducible exact stratagemref07_one.mono _ _)
      | (with_reducible exact LeO.refl _)
      | (with_reducible exact LeO.none _)
      | (with_reducible refine LeO.ite ?_ ?_)
      | (with_reducible refine LeO.bind ?_ (fun _ => ?_))
      | exact ih0 _ _ _
      | exact ih1 _ _ _ _ _ _ _ _ _
      | exact ih2 _ _ _ _ _ _ _ _
      | exact ih3 _ _ _ _ _ _ _ _
      | exact ih4 _ _ _ _ _ _ _ _ _
      | exact ih5 _ _ _ _ _ _ _ _
      | exact ih6 _ _ _ _ _ _ _ _ _
      | exact stratagemref07_one.mono _ _
      | exact LeO.none _
      | refine LeO.ite ?_ ?_
      | refine LeO.bind ?_ (fun _ => ?_)
    · intro y0 y1 y2 y3 y4 y5 y6 y7
      unfold stratagemref07_Scan.j4
      repeat' first
      | (with_reducible exact ih0 _ _ _)
      | (with_reducible exact ih1 _ _ _ _ _ _ _ _ _)
      | (with_reducible exact ih2 _ _ _ _ _ _ _ _)
      | (with_reducible exact ih3 _ _ _ _ _ _ _ _)
      | (with_reducible exact ih4 _ _ _ _ _ _ _ _ _)
      | (with_reducible exact ih5 _ _ _ _ _ _ _ _)
      | (with_reducible exact ih6 _ _ _ _ _ _ _ _ _)
      | (with_reducible exact stratagemref07_one.mono _ _)
      | (with_reducible exact LeO.refl _)
      | (with_reducible exact LeO.none _)
      | (with_reducible refine LeO.ite ?_ ?_)
      | (with_reducible refine LeO.bind ?_ (fun _ => ?_))
      | exact ih0 _ _ _
      | exact ih1 _ _ _ _ _ _ _ _ _
      | exact ih2 _ _ _ _ _ _ _ _
      | exact ih3 _ _ _ _ _ _ _ _
      | exact ih4 _ _ _ _ _ _ _ _ _
      | exact ih5 _ _ _ _ _ _ _ _
      | exact ih6 _ _ _ _ _ _ _ _ _
      | exact stratagemref07_one.mono _ _
      | exact LeO.none _
      | refine LeO.ite ?_ ?_
      | refine LeO.bind ?_ (fun _ => ?_)
    · intro y0 y1 y2 y3 y4 y5 y6 y7 y8
      unfold stratagemref07_Scan.l3
      repeat' first
      | (with_reducible exact ih0 _ _ _)
      | (with_reducible exact ih1 _ _ _ _ _ _ _ _ _)
      | (with_reducible exact ih2 _ _ _ _ _ _ _ _)
      | (with_reducible exact ih3 _ _ _ _ _ _ _ _)
      | (with_reducible exact ih4 _ _ _ _ _ _ _ _ _)
      | (with_reducible exact ih5 _ _ _ _ _ _ _ _)
      | (with_reducible exact ih6 _ _ _ _ _ _ _ _ _)
      | (with_reducible exact stratagemref07_one.mono _ _)
      | (with_reducible exact LeO.refl _)
      | (with_reducible exact LeO.none _)
      | (with_reducible refine LeO.ite ?_ ?_)
      | (with_reducible refine LeO.bind ?_ (fun _ => ?_))
      | exact ih0 _ _ _
      | exact ih1 _ _ _ _ _ _ _ _ _
      | exact ih2 _ _ _ _ _ _ _ _
      | exact ih3 _ _ _ _ _ _ _ _
      | exact ih4 _ _ _ _ _ _ _ _ _
      | exact ih5 _ _ _ _ _ _ _ _
      | exact ih6 _ _ _ _ _ _ _ _ _
      | exact stratagemref07_one.mono _ _
      | exact LeO.none _
      | refine LeO.ite ?_ ?_
      | refine LeO.bind ?_ (fun _ => ?_)
    · intro y0 y1 y2 y3 y4 y5 y6 y7
      unfold stratagemref07_Scan.l2
      repeat' first
      | (with_reducible exact ih0 _ _ _)
      | (with_reducible exact ih1 _ _ _ _ _ _ _ _ _)
      | (with_reducible exact ih2 _ _ _ _ _ _ _ _)
      | (with_reducible exact ih3 _ _ _ _ _ _ _ _)
      | (with_reducible exact ih4 _ _ _ _ _ _ _ _ _)
      | (with_reducible exact ih5 _ _ _ _ _ _ _ _)
      | (with_reducible exact ih6 _ _ _ _ _ _ _ _ _)
      | (with_reducible exact stratagemref07_one.mono _ _)
      | (with_reducible exact LeO.refl _)
      | (with_reducible exact LeO.none _)
      | (with_reducible refine LeO.ite ?_ ?_)
      | (with_reducible refine LeO.bind ?_ (fun _ => ?_))
      | exact ih0 _ _ _
      | exact ih1 _ _ _ _ _ _ _ _ _
      | exact ih2 _ _ _ _ _ _ _ _
      | exact ih3 _ _ _ _ _ _ _ _
      | exact ih4 _ _ _ _ _ _ _ _ _
      | exact ih5 _ _ _ _ _ _ _ _
      | exact ih6 _ _ _ _ _ _ _ _ _
      | exact stratagemref07_one.mono _ _
      | exact LeO.none _
      | refine LeO.ite ?_ ?_
      | refine LeO.bind ?_ (fun _ => ?_)
    · intro y0 y1 y2 y3 y4 y5 y6 y7 y8
      unfold stratagemref07_Scan.j6
      repeat' first
      | (with_reducible exact ih0 _ _ _)
      | (with_reducible exact ih1 _ _ _ _ _ _ _ _ _)
      | (with_reducible exact ih2 _ _ _ _ _ _ _ _)
      | (with_reducible exact ih3 _ _ _ _ _ _ _ _)
      | (with_reducible exact ih4 _ _ _ _ _ _ _ _ _)
      | (with_reducible exact ih5 _ _ _ _ _ _ _ _)
      | (with_reducible exact ih6 _ _ _ _ _ _ _ _ _)
      | (with_reducible exact stratagemref07_one.mono _ _)
      | (with_reducible exact LeO.refl _)
      | (with_reducible exact LeO.none _)
      | (with_reducible refine LeO.ite ?_ ?_)
      | (with_reducible refine LeO.bind ?_ (fun _ => ?_))
      | exact ih0 _ _ _
      | exact ih1 _ _ _ _ _ _ _ _ _
      | exact ih2 _ _ _ _ _ _ _ _
      | exact ih3 _ _ _ _ _ _ _ _
      | exact ih4 _ _ _ _ _ _ _ _ _
      | exact ih5 _ _ _ _ _ _ _ _
      | exact ih6 _ _ _ _ _ _ _ _ _
      | exact stratagemref07_one.mono _ _
      | exact LeO.none _
      | refine LeO.ite ?_ ?_
      | refine LeO.bind ?_ (fun _ => ?_)
theorem stratagemref07_Scan.mono : ∀ a0 k, LeO (stratagemref07_Scan.f k a0) (stratagemref07_Scan.f (k + 1) a0) := by
  intro a0 k
  obtain ⟨ih0, ih1, ih2, ih3, ih4, ih5, ih6⟩ := stratagemref07_Scan.mono_l k
  unfold stratagemref07_Scan.f
  repeat' first
      | (with_reducible exact ih0 _ _ _)
      | (with_reducible exact ih1 _ _ _ _ _ _ _ _ _)
      | (with_reducible exact ih2 _ _ _ _ _ _ _ _)
      | (with_reducible exact ih3 _ _ _ _ _ _ _ _)
      | (with_reducible exact ih4 _ _ _ _ _ _ _ _ _)
      | (with_reducible exact ih5 _ _ _ _ _ _ _ _)
      | (with_reducible exact ih6 _ _ _ _ _ _ _ _ _)
      | (with_reducible exact stratagemref07_one.mono _ _)
      | (with_reducible exact LeO.refl _)
      | (with_reducible exact LeO.none _)
      | (with_reducible refine LeO.ite ?_ ?_)
      | (with_reducible refine LeO.bind ?_ (fun _ => ?_))
      | exact ih0 _ _ _
      | exact ih1 _ _ _ _ _ _ _ _ _
      | exact ih2 _ _ _ _ _ _ _ _
      | exact ih3 _ _ _ _ _ _ _ _
      | exact ih4 _ _ _ _ _ _ _ _ _
      | exact ih5 _ _ _ _ _ _ _ _
      | exact ih6 _ _ _ _ _ _ _ _ _
      | exact stratagemref07_one.mono _ _
      | exact LeO.none _
      | refine LeO.ite ?_ ?_
      | refine LeO.bind ?_ (fun _ => ?_)
def stratagemref07_Scan.T21 : Bool × List (List Nat × List Nat) := (true, [([], []), ([0], [0]), ([1], [1]), ([], []), ([], []), ([3, 4], [3, 4]), ([5], [5]), ([2, 6], [2, 6]), ([7], [7]), ([0, 1, 2, 3, 4, 5, 6, 7, 8], []), ([9, 8, 0, 1, 2, 3, 4, 5, 6, 7, 8], [8, 9])])
def stratagemref07_Scan.B21 : List Nat := [0, 1, 3, 0, 0, 24, 56, 127, 255, 511, 1023]
theorem stratagemref07_Scan.tab21 : rtab .any (opsOf Try.f30 21) = stratagemref07_Scan.T21 := by kernel_rfl
theorem stratagemref07_Scan.bits21 : waitsOk stratagemref07_Scan.T21.2 stratagemref07_Scan.B21 = true := by kernel_rfl
def stratagemref07_Scan.T24 : Bool × List (List Nat × List Nat) := (true, [([], []), ([], []), ([1], [1]), ([0, 2], [0, 2]), ([3], [3]), ([4], [4]), ([4], [4]), ([5, 6, 4], [4, 5, 6]), ([4], [4]), ([4], [4]), ([8, 9, 4], [4, 8, 9]), ([7, 10, 4, 4], [4, 7, 10]), ([4, 11], [4, 11]), ([12, 11], [12])])
def stratagemref07_Scan.B24 : List Nat := [0, 0, 2, 7, 15, 31, 31, 127, 31, 31, 799, 2047, 4095, 8191]
theorem stratagemref07_Scan.tab24 : rtab .any (opsOf Try.f30 24) = stratagemref07_Scan.T24 := by kernel_rfl
theorem stratagemref07_Scan.bits24 : waitsOk stratagemref07_Scan.T24.2 stratagemref07_Scan.B24 = true := by kernel_rfl
set_option maxHeartbeats 64000000 in
set_option maxRecDepth 100000 in
theorem stratagemref07_Scan.calls (k : Nat) (a0 : ByteArray) (r1 : List (S68)) (r2 : Int) (r3 : Int) (w : World) (h : stratagemref07_Scan.f k a0 = some (r1, r2, r3)) :
    Calls Try.prog 30 #[.string a0] w fun e w' => ∃ v0_ : Value, e = .returned (.tuple #[v0_, .int .i64 r2, .int .i64 r3]) ∧ Kd.R k68 68 w' w.heap.size (fun _ => True) v0_ r1 ∧ Below w.heap.size w w' := by
  have hu68 := Try.underlying68
  have HB := Aside0.mk (Below.refl w.heap.size w)
  have H : (if (a0.size : Int) > 4000 then (some (([] : List (S68)), 0, 5)) else (stratagemref07_Scan.l0 k a0 (([] : List (S68))) 0)) = some (r1, r2, r3) := h
  clear h
  by_cases c2 : (a0.size : Int) > 4000
  · rw [if_pos c2] at H
    have c2b0 : decide (4000 < (a0.size : Int)) = true := decide_eq_true c2
    have c2b1 : decide (4000 < a0.size) = true := decide_eq_true (by omega)
    clear c2
    simp only [Option.some.injEq, Prod.mk.injEq] at H
    obtain ⟨rfl, rfl, rfl⟩ := H
    go_enter Try.func30, Try.ntmps30
    go_wp2
    go_ret3
    exact ⟨_, by first | rfl | (simp [errW_none, errW_some] <;> rfl) | (simp [*, errW_none, errW_some] <;> rfl), by first | exact Kd.R_nil _ _ _ _ _ | exact Kd.N_nil _ _ _ _ _ | exact Kd.V_nil _ _ _ _ _ | exact Kd.Q_nil _ _ _ _ _ | exact Kd.S_nil _ _ _ _ _, by repeat (first | (with_reducible first | exact HB.out | apply below_alloc | apply pw_below_drewN | apply below_drew1) | exact HB.out)⟩
  · rw [if_neg c2] at H
    have c2b0 : decide (4000 < (a0.size : Int)) = false := decide_eq_false c2
    have c2b1 : decide (4000 < a0.size) = false := decide_eq_false (by omega)
    clear c2
    obtain ⟨y141, hy141⟩ : ∃ y_ : List (S68), y_ = (([] : List (S68))) := ⟨_, rfl⟩
    replace H : (stratagemref07_Scan.l0 k a0 y141 0) = some (r1, r2, r3) := by first | (rw [hy141]; with_reducible exact H) | (have H2_ := (Option.bind_some _ _).symm.trans H; rw [hy141]; with_reducible exact H2_) | (have H2_ := (Option.bind_some _ _).symm.trans H; with_reducible exact H2_) | with_reducible exact H | (rw [hy141]; exact H) | exact H
    have Ny141 := Aside0.mk hy141
    clear hy141
    have H' := Aside0.mk H
    clear H
    go_enter Try.func30, Try.ntmps30
    go_wp2_with (first | ((with_reducible refine gate_dst (N := 13) rfl ?_); refine Kd.R_lit k68 _ 68 ?hg (N := 13) ?hd (xs := ([] : List (S68))) (inner := []) (ok := fun _ => True) (okp := fun _ => True) ?hr ?hp (fun _ hk => hk) trivial (Below.refl _ _) (Nat.le_refl _) (by simp) ?_; (case hd => rfl); (case hg => rfl); (case hr => first | (go_simp; done) | (go_simp; rfl)); (case hp => exact (Reps.none _ _)); intro v142 w3 ho4 hb hg_ hnew_; clear hg_ hnew_; (first | rw [← Ny141.out] at ho4 | (simp only [Int.reduceToNat] at ho4; rw [← Ny141.out] at ho4)); have n0_ := Aside0.mk (Kd.R_lower ho4 (below_size (by repeat (first | (with_reducible first | exact HB.out | apply below_alloc | apply pw_below_drewN | apply below_drew1) | exact HB.out)))); have n1_ := Aside0.mk (below_step (by repeat (first | (with_reducible first | exact HB.out | apply below_alloc | apply pw_below_drewN | apply below_drew1) | exact HB.out)) hb); clear HB; have HO143 := n0_; have HB := n1_; clear n0_ n1_; clear hb ho4))
    go_loopg [5, 6] k (fun kq v5 v6 w' => ∃ (x5_1 : List (S68)) (x6_1 : Int), v6 = .int .i64 x6_1 ∧ Aside0 (stratagemref07_Scan.l0 kq a0 x5_1 x6_1 = some (r1, r2, r3)) ∧ Aside0 (kq ≤ k) ∧ Aside0 (Kd.R k68 68 w' w.heap.size (fun _ => True) v5 x5_1) ∧ Aside0 (Below w.heap.size w w'))
    case atStart => exact ⟨(y141), (0), (by first | rfl | (simp; done) | (simp [*]; done)), H', ⟨Nat.le_refl _⟩, ⟨by (with_reducible repeat (first | apply Kd.R_alloc | apply Kd.R_drewN | apply Kd.R_drew)); exact HO143.out⟩, ⟨by repeat (first | (with_reducible first | exact HB.out | apply below_alloc | apply pw_below_drewN | apply below_drew1) | exact HB.out)⟩⟩
    case round =>
      clear H'
      try clear c2
      try clear c2b0
      try clear c2b1
      try clear p2
      try clear c3
      obtain ⟨x5_1, x6_1, rfl, HA, HK1, HO_5, HB⟩ := hrel
      cases gk with
      | zero => exact absurd HA.out (by simp [stratagemref07_Scan.l0])
      | succ k1 =>
        have H := HA.out
        clear HA
        simp only [stratagemref07_Scan.l0] at H
        by_cases c5 : x6_1 < (a0.size : Int)
        · rw [if_pos c5] at H
          have c5b0 : decide (x6_1 < (a0.size : Int)) = true := decide_eq_true c5
          clear c5
          have HC6 := Aside0.mk H
          clear H
          go_upto_region 9 with (first | ((with_reducible refine gate_dst (N := 8) rfl ?_); refine box_event ?hg (N := 8) ?hd (cs := #[.int .i64 0, .string (⟨#[]⟩ : ByteArray), .int .i64 0, .int .i64 0]) (t := 68) ?hr ?_; (case hd => rfl); (case hg => rfl); (case hr => first | (go_simp; done) | (go_simp; rfl)); intro gb144 hg w7 hbox hb; have n0_ := Aside0.mk (Kd.R_below (Kd.R_elderB (by (with_reducible repeat (first | apply Kd.R_alloc | apply Kd.R_drewN | apply Kd.R_drew)); exact HO_5.out) gb144 (Nat.le_of_eq hg.symm)) hb); have n1_ := Aside0.mk (below_step (by repeat (first | (with_reducible first | exact HB.out | apply below_alloc | apply pw_below_drewN | apply below_drew1) | exact HB.out)) hb); have n2_ := Aside0.mk (hbox); have n3_ := Aside0.mk ((by rw [hg]; exact (below_size (by repeat (first | (with_reducible first | exact HB.out | apply below_alloc | apply pw_below_drewN | apply below_drew1) | exact HB.out))) : w.heap.size ≤ gb144)); have n4_ := Aside0.mk ((by rw [hg]; exact (below_size (by repeat (first | (with_reducible first | exact HB.out | apply below_alloc | apply pw_below_drewN | apply below_drew1) | exact HB.out))) : w.heap.size ≤ gb144)); clear HO_5; clear HB; have HO_5 := n0_; have HB := n1_; have BK144 := n2_; have GW144 := n3_; have GE144 := n4_; clear n0_ n1_ n2_ n3_ n4_; clear hb hbox hg; have hcz8_0 : w7.cell? ⟨gb144, 0, none⟩ = some (.int .i64 0) := (blk_cell BK144.out 0).trans rfl; have hcz8_1 : w7.cell? ⟨gb144, 1, none⟩ = some (.string (⟨#[]⟩ : ByteArray)) := (blk_cell BK144.out 1).trans rfl; have hcz8_2 : w7.cell? ⟨gb144, 2, none⟩ = some (.int .i64 0) := (blk_cell BK144.out 2).trans rfl; have hcz8_3 : w7.cell? ⟨gb144, 3, none⟩ = some (.int .i64 0) := (blk_cell BK144.out 3).trans rfl; have hfz8_0 := blk_frozen BK144.out 0; have hfz8_1 := blk_frozen BK144.out 1; have hfz8_2 := blk_frozen BK144.out 2; have hfz8_3 := blk_frozen BK144.out 3))
          (try simp only [Act.put, List.setIfInBounds_toArray, List.set_cons_zero, List.set_cons_succ])
          go_cut [23] (fun v23 wc => ∃ (kq : Nat) (x23_5 : Bool), v23 = .bool x23_5 ∧ Aside0 (stratagemref07_Scan.j1 kq a0 x5_1 (wrap64 (x6_1 + 1)) x6_1 x23_5 3 (⟨#[]⟩ : ByteArray) 0 x6_1 = some (r1, r2, r3)) ∧ Aside0 (kq ≤ k1) ∧ Aside0 (Kd.R k68 68 wc w.heap.size (fun k_ => k_ ≠ gb144) u5 x5_1) ∧ Aside0 (wc.heap[gb144]? = some (.cells #[.int .i64 3, .string (⟨#[]⟩ : ByteArray), .int .i64 0, .int .i64 x6_1] 68 (0, 0))) ∧ Aside0 (Below w.heap.size w wc))
          case first =>
            have H := HC6.out
            clear HC6
            by_cases c9 : 0 ≤ x6_1
            · rw [if_pos c9] at H
              have c9b0 : decide (0 ≤ x6_1) = true := decide_eq_true c9
              clear c9
              (first | rw [c9b0] | (simp only [i64_w, i32_w]; rw [c9b0]) | skip)
              by_cases c11 : (bt a0 x6_1) = 32
              · rw [if_pos c11] at H
                have c11b0 : ((bt a0 x6_1) == 32) = true := beq_iff_eq.mpr c11
                have c11b1 : ((bt a0 x6_1) != 32) = false := bne_eq_false_iff_eq.mpr c11
                clear c11
                have H' := Aside0.mk H
                clear H
                have p10 : 0 ≤ (x6_1 : Int) := of_decide_eq_true (by first | (with_reducible assumption) | assumption)
                have q10 : x6_1 < (a0.size : Int) := of_decide_eq_true (by first | (with_reducible assumption) | assumption)
                have hx10 := bt_at a0 x6_1
                replace p10 := eq_true p10
                replace q10 := eq_true q10
                go_wp2
                go_meet
                case rel => exact ⟨_, (true), (by first | rfl | (simp; done) | (simp [*]; done)), H', ⟨by have := HK1.out; first | omega | exact Nat.le_refl _⟩, ⟨by (with_reducible repeat (first | apply Kd.R_alloc | apply Kd.R_drewN | apply Kd.R_drew)); exact Kd.R_mono (Kd.R_far (p := ⟨gb144, 3, none⟩) (Kd.R_far (p := ⟨gb144, 2, none⟩) (Kd.R_far (p := ⟨gb144, 1, none⟩) (Kd.R_far (p := ⟨gb144, 0, none⟩) (Kd.R_mono HO_5.out (fun k_ hk => (⟨hk, hk.2⟩ : _ ∧ k_ ≠ gb144))) (fun _ hk => hk.2) (.int .i64 3)) (fun _ hk => hk.2) (.string (⟨#[]⟩ : ByteArray))) (fun _ hk => hk.2) (.int .i64 0)) (fun _ hk => hk.2) (.int .i64 x6_1)) (fun _ hk => hk.1.2)⟩, ⟨by (with_reducible repeat (first | refine blk_drewN ?_ _ | refine blk_drew ?_ | refine blk_alloc ?_ _)); refine blk_put (cs := #[.int .i64 3, .string (⟨#[]⟩ : ByteArray), .int .i64 0, .int .i64 0]) ?_ 3 _ rfl; (with_reducible repeat (first | refine blk_drewN ?_ _ | refine blk_drew ?_ | refine blk_alloc ?_ _)); refine blk_put (cs := #[.int .i64 3, .string (⟨#[]⟩ : ByteArray), .int .i64 0, .int .i64 0]) ?_ 2 _ rfl; (with_reducible repeat (first | refine blk_drewN ?_ _ | refine blk_drew ?_ | refine blk_alloc ?_ _)); refine blk_put (cs := #[.int .i64 3, .string (⟨#[]⟩ : ByteArray), .int .i64 0, .int .i64 0]) ?_ 1 _ rfl; (with_reducible repeat (first | refine blk_drewN ?_ _ | refine blk_drew ?_ | refine blk_alloc ?_ _)); refine blk_put (cs := #[.int .i64 0, .string (⟨#[]⟩ : ByteArray), .int .i64 0, .int .i64 0]) ?_ 0 _ rfl; (with_reducible repeat (first | refine blk_drewN ?_ _ | refine blk_drew ?_ | refine blk_alloc ?_ _)); exact BK144.out⟩, ⟨by repeat (first | (with_reducible first | exact HB.out | apply below_alloc | apply pw_below_drewN | apply below_drew1 | refine below_set ?_ GE144.out) | exact HB.out)⟩⟩
              · rw [if_neg c11] at H
                have c11b0 : ((bt a0 x6_1) == 32) = false := beq_eq_false_iff_ne.mpr c11
                have c11b1 : ((bt a0 x6_1) != 32) = true := bne_iff_ne.mpr c11
                have H' := Aside0.mk H
                clear H
                have p10 : 0 ≤ (x6_1 : Int) := of_decide_eq_true (by first | (with_reducible assumption) | assumption)
                have q10 : x6_1 < (a0.size : Int) := of_decide_eq_true (by first | (with_reducible assumption) | assumption)
                have hx10 := bt_at a0 x6_1
                replace p10 := eq_true p10
                replace q10 := eq_true q10
                have p12 : 0 ≤ (x6_1 : Int) := of_decide_eq_true (by first | (with_reducible assumption) | assumption)
                have q12 : x6_1 < (a0.size : Int) := of_decide_eq_true (by first | (with_reducible assumption) | assumption)
                have hx12 := bt_at a0 x6_1
                replace p12 := eq_true p12
                replace q12 := eq_true q12
                go_wp2
                go_meet
                case rel => exact ⟨_, (((bt a0 x6_1) == 10)), (by first | rfl | (simp; done) | (simp [*]; done)), H', ⟨by have := HK1.out; first | omega | exact Nat.le_refl _⟩, ⟨by (with_reducible repeat (first | apply Kd.R_alloc | apply Kd.R_drewN | apply Kd.R_drew)); exact Kd.R_mono (Kd.R_far (p := ⟨gb144, 3, none⟩) (Kd.R_far (p := ⟨gb144, 2, none⟩) (Kd.R_far (p := ⟨gb144, 1, none⟩) (Kd.R_far (p := ⟨gb144, 0, none⟩) (Kd.R_mono HO_5.out (fun k_ hk => (⟨hk, hk.2⟩ : _ ∧ k_ ≠ gb144))) (fun _ hk => hk.2) (.int .i64 3)) (fun _ hk => hk.2) (.string (⟨#[]⟩ : ByteArray))) (fun _ hk => hk.2) (.int .i64 0)) (fun _ hk => hk.2) (.int .i64 x6_1)) (fun _ hk => hk.1.2)⟩, ⟨by (with_reducible repeat (first | refine blk_drewN ?_ _ | refine blk_drew ?_ | refine blk_alloc ?_ _)); refine blk_put (cs := #[.int .i64 3, .string (⟨#[]⟩ : ByteArray), .int .i64 0, .int .i64 0]) ?_ 3 _ rfl; (with_reducible repeat (first | refine blk_drewN ?_ _ | refine blk_drew ?_ | refine blk_alloc ?_ _)); refine blk_put (cs := #[.int .i64 3, .string (⟨#[]⟩ : ByteArray), .int .i64 0, .int .i64 0]) ?_ 2 _ rfl; (with_reducible repeat (first | refine blk_drewN ?_ _ | refine blk_drew ?_ | refine blk_alloc ?_ _)); refine blk_put (cs := #[.int .i64 3, .string (⟨#[]⟩ : ByteArray), .int .i64 0, .int .i64 0]) ?_ 1 _ rfl; (with_reducible repeat (first | refine blk_drewN ?_ _ | refine blk_drew ?_ | refine blk_alloc ?_ _)); refine blk_put (cs := #[.int .i64 0, .string (⟨#[]⟩ : ByteArray), .int .i64 0, .int .i64 0]) ?_ 0 _ rfl; (with_reducible repeat (first | refine blk_drewN ?_ _ | refine blk_drew ?_ | refine blk_alloc ?_ _)); exact BK144.out⟩, ⟨by repeat (first | (with_reducible first | exact HB.out | apply below_alloc | apply pw_below_drewN | apply below_drew1 | refine below_set ?_ GE144.out) | exact HB.out)⟩⟩
            · rw [if_neg c9] at H
              exact absurd H (by simp)
          case rest =>
            clear HC6
            try clear c1
            try clear p1
            try clear q1
            try clear hx1
            try clear c2
            try clear c2b0
            try clear c2b1
            try clear p2
            try clear c3
            try clear c5
            try clear c5b0
            try clear p6
            try clear c9
            try clear c9b0
            try clear p10
            try clear q10
            try clear hx10
            try clear c11
            try clear c11b0
            try clear c11b1
            try clear p12
            try clear q12
            try clear hx12
            try clear hcz8_0
            try clear hcz8_1
            try clear hcz8_2
            try clear hcz8_3
            try clear hfz8_0
            try clear hfz8_1
            try clear hfz8_2
            try clear hfz8_3
            try clear p10
            try clear p12
            try clear p2
            try clear q10
            try clear q12
            obtain ⟨kq, x23_5, rfl, HA, HJ5, HO_5, BK144, HB⟩ := hcut
            cases kq with
            | zero => exact absurd HA.out (by simp [stratagemref07_Scan.j1])
            | succ kj5 =>
              have H := HA.out
              clear HA
              simp only [stratagemref07_Scan.j1] at H
              by_cases c13 : x23_5 = true
              · subst c13
                have H1 : (stratagemref07_Scan.l0 kj5 a0 x5_1 (wrap64 (x6_1 + 1))) = some (r1, r2, r3) := by rw [if_pos rfl] at H; exact H
                clear H
                have H := H1
                clear H1
                have H' := Aside0.mk H
                clear H
                go_wp2
                go_roundg kj5
                case measure => have := HK1.out; have := HJ5.out; omega
                case rel => exact ⟨(x5_1), ((wrap64 (x6_1 + 1))), (by first | rfl | (simp; done) | (simp [*]; done)), H', ⟨by have := HK1.out; have := HJ5.out; omega⟩, ⟨by (with_reducible repeat (first | apply Kd.R_alloc | apply Kd.R_drewN | apply Kd.R_drew)); exact Kd.R_mono HO_5.out (fun _ hk => trivial)⟩, ⟨by repeat (first | (with_reducible first | exact HB.out | apply below_alloc | apply pw_below_drewN | apply below_drew1 | refine below_set ?_ GE144.out) | exact HB.out)⟩⟩
              · replace c13 := Bool.eq_false_iff.mpr c13
                subst c13
                have H1 : (if 0 ≤ x6_1 then (if x6_1 < (a0.size : Int) then ((stratagemref07_word.f (bt a0 x6_1)).bind fun t145 => (if t145 = true then (stratagemref07_Scan.l1 kj5 a0 x5_1 (wrap64 (x6_1 + 1)) x6_1 1 (⟨#[]⟩ : ByteArray) 0 x6_1) else ((stratagemref07_digit.f (bt a0 x6_1)).bind fun t154 => (if t154 = true then (stratagemref07_Scan.l2 kj5 a0 x5_1 (wrap64 (x6_1 + 1)) x6_1 2 (⟨#[]⟩ : ByteArray) 0 x6_1) else (if (wrap64 (x6_1 + 1)) < (a0.size : Int) then (if 0 ≤ (wrap64 (x6_1 + 1)) then ((stratagemref07_pair.f (bt a0 x6_1) (bt a0 (wrap64 (x6_1 + 1)))).bind fun t159 => (stratagemref07_Scan.j6 kj5 a0 x5_1 (wrap64 (x6_1 + 1)) x6_1 t159 3 (⟨#[]⟩ : ByteArray) 0 x6_1)) else (none)) else (stratagemref07_Scan.j6 kj5 a0 x5_1 (wrap64 (x6_1 + 1)) x6_1 false 3 (⟨#[]⟩ : ByteArray) 0 x6_1)))))) else (none)) else (none)) = some (r1, r2, r3) := by rw [if_neg (show ¬ (false = true) by decide)] at H; exact H
                clear H
                have H := H1
                clear H1
                by_cases c14 : 0 ≤ x6_1
                · rw [if_pos c14] at H
                  have c14b0 : decide (0 ≤ x6_1) = true := decide_eq_true c14
                  clear c14
                  by_cases c15 : x6_1 < (a0.size : Int)
                  · rw [if_pos c15] at H
                    have c15b0 : decide (x6_1 < (a0.size : Int)) = true := decide_eq_true c15
                    clear c15
                    replace H := Option.bind_eq_some_iff.mp H
                    obtain ⟨t145, A170, H⟩ := H
                    replace H : (if t145 = true then (stratagemref07_Scan.l1 kj5 a0 x5_1 (wrap64 (x6_1 + 1)) x6_1 1 (⟨#[]⟩ : ByteArray) 0 x6_1) else ((stratagemref07_digit.f (bt a0 x6_1)).bind fun t154 => (if t154 = true then (stratagemref07_Scan.l2 kj5 a0 x5_1 (wrap64 (x6_1 + 1)) x6_1 2 (⟨#[]⟩ : ByteArray) 0 x6_1) else (if (wrap64 (x6_1 + 1)) < (a0.size : Int) then (if 0 ≤ (wrap64 (x6_1 + 1)) then ((stratagemref07_pair.f (bt a0 x6_1) (bt a0 (wrap64 (x6_1 + 1)))).bind fun t159 => (stratagemref07_Scan.j6 kj5 a0 x5_1 (wrap64 (x6_1 + 1)) x6_1 t159 3 (⟨#[]⟩ : ByteArray) 0 x6_1)) else (none)) else (stratagemref07_Scan.j6 kj5 a0 x5_1 (wrap64 (x6_1 + 1)) x6_1 false 3 (⟨#[]⟩ : ByteArray) 0 x6_1))))) = some (r1, r2, r3) := H
                    have A17 := Aside0.mk A170
                    clear A170
                    by_cases c18 : t145 = true
                    · subst c18
                      have H1 : (stratagemref07_Scan.l1 kj5 a0 x5_1 (wrap64 (x6_1 + 1)) x6_1 1 (⟨#[]⟩ : ByteArray) 0 x6_1) = some (r1, r2, r3) := by rw [if_pos rfl] at H; exact H
                      clear H
                      have H := H1
                      clear H1
                      have H' := Aside0.mk H
                      clear H
                      have p16 : 0 ≤ (x6_1 : Int) := of_decide_eq_true (by first | (with_reducible assumption) | assumption)
                      have q16 : x6_1 < (a0.size : Int) := of_decide_eq_true (by first | (with_reducible assumption) | assumption)
                      have hx16 := bt_at a0 x6_1
                      replace p16 := eq_true p16
                      replace q16 := eq_true q16
                      go_wp2_with (first | ((with_reducible refine gate_callee (f := 40) rfl ?_); refine goesL_ (some 38) rfl rfl Try.func40 (by kernel_rfl) rfl #[.int .u8 (bt a0 x6_1)] rfl (by (try simp only [List.map_toArray, List.map_cons, List.map_nil]); first | done | rfl | (simp only [List.length_drop, List.length_take]; rfl)) ?_; (with_reducible refine (stratagemref07_word.calls (bt a0 x6_1) true _ A17.out).mono ?_); rintro e w' ⟨rfl, ⟨nd, rfl⟩⟩; refine ⟨_, rfl, ?_⟩; (try (rw [drewN_self wc]; generalize hq_ : World.drewN wc _ = wc; have n0_ : Aside0 (Kd.R k68 68 wc w.heap.size (fun k_ => k_ ≠ gb144) u5 x5_1) := ⟨by rw [← hq_]; exact (by (with_reducible repeat (first | apply Kd.R_alloc | apply Kd.R_drewN | apply Kd.R_drew)); exact HO_5.out)⟩; have n1_ : Aside0 (wc.heap[gb144]? = some (.cells #[.int .i64 3, .string (⟨#[]⟩ : ByteArray), .int .i64 0, .int .i64 x6_1] 68 (0, 0))) := ⟨by rw [← hq_]; exact (by (with_reducible repeat (first | refine blk_drewN ?_ _ | refine blk_drew ?_ | refine blk_alloc ?_ _)); exact BK144.out)⟩; have n2_ : Aside0 (Below w.heap.size w wc) := ⟨by rw [← hq_]; exact (by repeat (first | (with_reducible first | exact HB.out | apply below_alloc | apply pw_below_drewN | apply below_drew1 | refine below_set ?_ GE144.out) | exact HB.out))⟩; clear HO_5 BK144 HB hq_; have HO_5 := n0_; have BK144 := n1_; have HB := n2_; clear n0_ n1_ n2_)); have hcz19_0 : wc.cell? ⟨gb144, 0, none⟩ = some (.int .i64 3) := (blk_cell BK144.out 0).trans rfl; have hcz19_1 : wc.cell? ⟨gb144, 1, none⟩ = some (.string (⟨#[]⟩ : ByteArray)) := (blk_cell BK144.out 1).trans rfl; have hcz19_2 : wc.cell? ⟨gb144, 2, none⟩ = some (.int .i64 0) := (blk_cell BK144.out 2).trans rfl; have hcz19_3 : wc.cell? ⟨gb144, 3, none⟩ = some (.int .i64 x6_1) := (blk_cell BK144.out 3).trans rfl; have hfz19_0 := blk_frozen BK144.out 0; have hfz19_1 := blk_frozen BK144.out 1; have hfz19_2 := blk_frozen BK144.out 2; have hfz19_3 := blk_frozen BK144.out 3))
                      go_loopg [6] kj5 (fun kq v6 w' => ∃ (x6_3 : Int), v6 = .int .i64 x6_3 ∧ Aside0 (stratagemref07_Scan.l1 kq a0 x5_1 x6_3 x6_1 1 (⟨#[]⟩ : ByteArray) 0 x6_1 = some (r1, r2, r3)) ∧ Aside0 (kq ≤ kj5) ∧ Aside0 (Kd.R k68 68 w' w.heap.size (fun k_ => k_ ≠ gb144) u5 x5_1) ∧ Aside0 (w'.heap[gb144]? = some (.cells #[.int .i64 1, .string (⟨#[]⟩ : ByteArray), .int .i64 0, .int .i64 x6_1] 68 (0, 0))) ∧ Aside0 (Below w.heap.size w w'))
                      case atStart => exact ⟨((wrap64 (x6_1 + 1))), (by first | rfl | (simp; done) | (simp [*]; done)), H', ⟨Nat.le_refl _⟩, ⟨by (with_reducible repeat (first | apply Kd.R_alloc | apply Kd.R_drewN | apply Kd.R_drew)); exact Kd.R_mono (Kd.R_far (p := ⟨gb144, 0, none⟩) (Kd.R_mono HO_5.out (fun k_ hk => (⟨hk, hk⟩ : _ ∧ k_ ≠ gb144))) (fun _ hk => hk.2) (.int .i64 1)) (fun _ hk => hk.1)⟩, ⟨by (with_reducible repeat (first | refine blk_drewN ?_ _ | refine blk_drew ?_ | refine blk_alloc ?_ _)); refine blk_put (cs := #[.int .i64 3, .string (⟨#[]⟩ : ByteArray), .int .i64 0, .int .i64 x6_1]) ?_ 0 _ rfl; (with_reducible repeat (first | refine blk_drewN ?_ _ | refine blk_drew ?_ | refine blk_alloc ?_ _)); exact BK144.out⟩, ⟨by repeat (first | (with_reducible first | exact HB.out | apply below_alloc | apply pw_below_drewN | apply below_drew1 | refine below_set ?_ GE144.out) | exact HB.out)⟩⟩
                      case round =>
                        clear H'
                        try clear c1
                        try clear p1
                        try clear q1
                        try clear hx1
                        try clear c2
                        try clear c2b0
                        try clear c2b1
                        try clear p2
                        try clear c3
                        try clear c4
                        try clear c5
                        try clear c5b0
                        try clear p6
                        try clear c9
                        try clear c9b0
                        try clear p10
                        try clear q10
                        try clear hx10
                        try clear c11
                        try clear c11b0
                        try clear c11b1
                        try clear p12
                        try clear q12
                        try clear hx12
                        try clear c13
                        try clear c14
                        try clear c14b0
                        try clear c15
                        try clear c15b0
                        try clear p16
                        try clear q16
                        try clear hx16
                        try clear c18
                        try clear hcz19_0
                        try clear hcz19_1
                        try clear hcz19_2
                        try clear hcz19_3
                        try clear hcz8_0
                        try clear hcz8_1
                        try clear hcz8_2
                        try clear hcz8_3
                        try clear hfz19_0
                        try clear hfz19_1
                        try clear hfz19_2
                        try clear hfz19_3
                        try clear hfz8_0
                        try clear hfz8_1
                        try clear hfz8_2
                        try clear hfz8_3
                        try clear p1
                        try clear p10
                        try clear p12
                        try clear p16
                        try clear p2
                        try clear p6
                        try clear q1
                        try clear q10
                        try clear q12
                        try clear q16
                        obtain ⟨x6_3, rfl, HA, HK3, HO_5, BK144, HB⟩ := hrel
                        cases gk with
                        | zero => exact absurd HA.out (by simp [stratagemref07_Scan.l1])
                        | succ k3 =>
                          have H := HA.out
                          clear HA
                          simp only [stratagemref07_Scan.l1] at H
                          by_cases c20 : x6_3 < (a0.size : Int)
                          · rw [if_pos c20] at H
                            have c20b0 : decide (x6_3 < (a0.size : Int)) = true := decide_eq_true c20
                            clear c20
                            by_cases c21 : 0 ≤ x6_3
                            · rw [if_pos c21] at H
                              have c21b0 : decide (0 ≤ x6_3) = true := decide_eq_true c21
                              clear c21
                              replace H := Option.bind_eq_some_iff.mp H
                              obtain ⟨t146, A230, H⟩ := H
                              replace H : (if t146 = true then (stratagemref07_Scan.l1 k3 a0 x5_1 (wrap64 (x6_3 + 1)) x6_1 1 (⟨#[]⟩ : ByteArray) 0 x6_1) else ((stratagemref07_digit.f (bt a0 x6_3)).bind fun t147 => (if t147 = true then (stratagemref07_Scan.l1 k3 a0 x5_1 (wrap64 (x6_3 + 1)) x6_1 1 (⟨#[]⟩ : ByteArray) 0 x6_1) else (if (bt a0 x6_3) = 95 then (stratagemref07_Scan.l1 k3 a0 x5_1 (wrap64 (x6_3 + 1)) x6_1 1 (⟨#[]⟩ : ByteArray) 0 x6_1) else (if 0 ≤ x6_1 then (if x6_1 ≤ x6_3 then (if x6_3 ≤ (a0.size : Int) then (if x5_1.length < 3518437208883 then (stratagemref07_Scan.l0 k3 a0 (x5_1 ++ [(⟨1, a0.extract (x6_1 : Int).toNat (x6_3 : Int).toNat, 0, x6_1⟩ : S68)]) x6_3) else (none)) else (none)) else (none)) else (none)))))) = some (r1, r2, r3) := H
                              have A23 := Aside0.mk A230
                              clear A230
                              by_cases c24 : t146 = true
                              · subst c24
                                have H1 : (stratagemref07_Scan.l1 k3 a0 x5_1 (wrap64 (x6_3 + 1)) x6_1 1 (⟨#[]⟩ : ByteArray) 0 x6_1) = some (r1, r2, r3) := by rw [if_pos rfl] at H; exact H
                                clear H
                                have H := H1
                                clear H1
                                have H' := Aside0.mk H
                                clear H
                                have p22 : 0 ≤ (x6_3 : Int) := of_decide_eq_true (by first | (with_reducible assumption) | assumption)
                                have q22 : x6_3 < (a0.size : Int) := of_decide_eq_true (by first | (with_reducible assumption) | assumption)
                                have hx22 := bt_at a0 x6_3
                                replace p22 := eq_true p22
                                replace q22 := eq_true q22
                                go_wp2_with (first | (go_at_call 40; (with_reducible refine (stratagemref07_word.calls (bt a0 x6_3) true _ A23.out).mono ?_); rintro e w' ⟨rfl, ⟨nd, rfl⟩⟩))
                                go_roundg k3
                                case measure => have := HK1.out; have := HJ5.out; have := HK3.out; omega
                                case rel => exact ⟨(wrap64 (x6_3 + 1)), (by first | rfl | (simp; done) | (simp [*]; done)), H', ⟨by have := HK1.out; have := HJ5.out; have := HK3.out; omega⟩, ⟨by (with_reducible repeat (first | apply Kd.R_alloc | apply Kd.R_drewN | apply Kd.R_drew)); exact HO_5.out⟩, ⟨by (with_reducible repeat (first | refine blk_drewN ?_ _ | refine blk_drew ?_ | refine blk_alloc ?_ _)); exact BK144.out⟩, ⟨by repeat (first | (with_reducible first | exact HB.out | apply below_alloc | apply pw_below_drewN | apply below_drew1 | refine below_set ?_ GE144.out) | exact HB.out)⟩⟩
                              · replace c24 := Bool.eq_false_iff.mpr c24
                                subst c24
                                have H1 : ((stratagemref07_digit.f (bt a0 x6_3)).bind fun t147 => (if t147 = true then (stratagemref07_Scan.l1 k3 a0 x5_1 (wrap64 (x6_3 + 1)) x6_1 1 (⟨#[]⟩ : ByteArray) 0 x6_1) else (if (bt a0 x6_3) = 95 then (stratagemref07_Scan.l1 k3 a0 x5_1 (wrap64 (x6_3 + 1)) x6_1 1 (⟨#[]⟩ : ByteArray) 0 x6_1) else (if 0 ≤ x6_1 then (if x6_1 ≤ x6_3 then (if x6_3 ≤ (a0.size : Int) then (if x5_1.length < 3518437208883 then (stratagemref07_Scan.l0 k3 a0 (x5_1 ++ [(⟨1, a0.extract (x6_1 : Int).toNat (x6_3 : Int).toNat, 0, x6_1⟩ : S68)]) x6_3) else (none)) else (none)) else (none)) else (none))))) = some (r1, r2, r3) := by rw [if_neg (show ¬ (false = true) by decide)] at H; exact H
                                clear H
                                have H := H1
                                clear H1
                                replace H := Option.bind_eq_some_iff.mp H
                                obtain ⟨t147, A260, H⟩ := H
                                replace H : (if t147 = true then (stratagemref07_Scan.l1 k3 a0 x5_1 (wrap64 (x6_3 + 1)) x6_1 1 (⟨#[]⟩ : ByteArray) 0 x6_1) else (if (bt a0 x6_3) = 95 then (stratagemref07_Scan.l1 k3 a0 x5_1 (wrap64 (x6_3 + 1)) x6_1 1 (⟨#[]⟩ : ByteArray) 0 x6_1) else (if 0 ≤ x6_1 then (if x6_1 ≤ x6_3 then (if x6_3 ≤ (a0.size : Int) then (if x5_1.length < 3518437208883 then (stratagemref07_Scan.l0 k3 a0 (x5_1 ++ [(⟨1, a0.extract (x6_1 : Int).toNat (x6_3 : Int).toNat, 0, x6_1⟩ : S68)]) x6_3) else (none)) else (none)) else (none)) else (none)))) = some (r1, r2, r3) := H
                                have A26 := Aside0.mk A260
                                clear A260
                                by_cases c27 : t147 = true
                                · subst c27
                                  have H1 : (stratagemref07_Scan.l1 k3 a0 x5_1 (wrap64 (x6_3 + 1)) x6_1 1 (⟨#[]⟩ : ByteArray) 0 x6_1) = some (r1, r2, r3) := by rw [if_pos rfl] at H; exact H
                                  clear H
                                  have H := H1
                                  clear H1
                                  have H' := Aside0.mk H
                                  clear H
                                  have p22 : 0 ≤ (x6_3 : Int) := of_decide_eq_true (by first | (with_reducible assumption) | assumption)
                                  have q22 : x6_3 < (a0.size : Int) := of_decide_eq_true (by first | (with_reducible assumption) | assumption)
                                  have hx22 := bt_at a0 x6_3
                                  replace p22 := eq_true p22
                                  replace q22 := eq_true q22
                                  go_wp2_with (first | (go_at_call 40; (with_reducible refine (stratagemref07_word.calls (bt a0 x6_3) false _ A23.out).mono ?_); rintro e w' ⟨rfl, ⟨nd, rfl⟩⟩; have p25 : 0 ≤ (x6_3 : Int) := of_decide_eq_true (by first | (with_reducible assumption) | assumption); have q25 : x6_3 < (a0.size : Int) := of_decide_eq_true (by first | (with_reducible assumption) | assumption); have hx25 := bt_at a0 x6_3; replace p25 := eq_true p25; replace q25 := eq_true q25) | (go_at_call 41; (with_reducible refine (stratagemref07_digit.calls (bt a0 x6_3) true _ A26.out).mono ?_); rintro e w' ⟨rfl, ⟨nd, rfl⟩⟩))
                                  go_roundg k3
                                  case measure => have := HK1.out; have := HJ5.out; have := HK3.out; omega
                                  case rel => exact ⟨(wrap64 (x6_3 + 1)), (by first | rfl | (simp; done) | (simp [*]; done)), H', ⟨by have := HK1.out; have := HJ5.out; have := HK3.out; omega⟩, ⟨by (with_reducible repeat (first | apply Kd.R_alloc | apply Kd.R_drewN | apply Kd.R_drew)); exact HO_5.out⟩, ⟨by (with_reducible repeat (first | refine blk_drewN ?_ _ | refine blk_drew ?_ | refine blk_alloc ?_ _)); exact BK144.out⟩, ⟨by repeat (first | (with_reducible first | exact HB.out | apply below_alloc | apply pw_below_drewN | apply below_drew1 | refine below_set ?_ GE144.out) | exact HB.out)⟩⟩
                                · replace c27 := Bool.eq_false_iff.mpr c27
                                  subst c27
                                  have H1 : (if (bt a0 x6_3) = 95 then (stratagemref07_Scan.l1 k3 a0 x5_1 (wrap64 (x6_3 + 1)) x6_1 1 (⟨#[]⟩ : ByteArray) 0 x6_1) else (if 0 ≤ x6_1 then (if x6_1 ≤ x6_3 then (if x6_3 ≤ (a0.size : Int) then (if x5_1.length < 3518437208883 then (stratagemref07_Scan.l0 k3 a0 (x5_1 ++ [(⟨1, a0.extract (x6_1 : Int).toNat (x6_3 : Int).toNat, 0, x6_1⟩ : S68)]) x6_3) else (none)) else (none)) else (none)) else (none))) = some (r1, r2, r3) := by rw [if_neg (show ¬ (false = true) by decide)] at H; exact H
                                  clear H
                                  have H := H1
                                  clear H1
                                  by_cases c29 : (bt a0 x6_3) = 95
                                  · rw [if_pos c29] at H
                                    have c29b0 : ((bt a0 x6_3) == 95) = true := beq_iff_eq.mpr c29
                                    have c29b1 : ((bt a0 x6_3) != 95) = false := bne_eq_false_iff_eq.mpr c29
                                    clear c29
                                    have H' := Aside0.mk H
                                    clear H
                                    have p22 : 0 ≤ (x6_3 : Int) := of_decide_eq_true (by first | (with_reducible assumption) | assumption)
                                    have q22 : x6_3 < (a0.size : Int) := of_decide_eq_true (by first | (with_reducible assumption) | assumption)
                                    have hx22 := bt_at a0 x6_3
                                    replace p22 := eq_true p22
                                    replace q22 := eq_true q22
                                    go_wp2_with (first | (go_at_call 40; (with_reducible refine (stratagemref07_word.calls (bt a0 x6_3) false _ A23.out).mono ?_); rintro e w' ⟨rfl, ⟨nd, rfl⟩⟩; have p25 : 0 ≤ (x6_3 : Int) := of_decide_eq_true (by first | (with_reducible assumption) | assumption); have q25 : x6_3 < (a0.size : Int) := of_decide_eq_true (by first | (with_reducible assumption) | assumption); have hx25 := bt_at a0 x6_3; replace p25 := eq_true p25; replace q25 := eq_true q25) | (go_at_call 41; (with_reducible refine (stratagemref07_digit.calls (bt a0 x6_3) false _ A26.out).mono ?_); rintro e w' ⟨rfl, ⟨nd, rfl⟩⟩; have p28 : 0 ≤ (x6_3 : Int) := of_decide_eq_true (by first | (with_reducible assumption) | assumption); have q28 : x6_3 < (a0.size : Int) := of_decide_eq_true (by first | (with_reducible assumption) | assumption); have hx28 := bt_at a0 x6_3; replace p28 := eq_true p28; replace q28 := eq_true q28))
                                    go_roundg k3
                                    case measure => have := HK1.out; have := HJ5.out; have := HK3.out; omega
                                    case rel => exact ⟨(wrap64 (x6_3 + 1)), (by first | rfl | (simp; done) | (simp [*]; done)), H', ⟨by have := HK1.out; have := HJ5.out; have := HK3.out; omega⟩, ⟨by (with_reducible repeat (first | apply Kd.R_alloc | apply Kd.R_drewN | apply Kd.R_drew)); exact HO_5.out⟩, ⟨by (with_reducible repeat (first | refine blk_drewN ?_ _ | refine blk_drew ?_ | refine blk_alloc ?_ _)); exact BK144.out⟩, ⟨by repeat (first | (with_reducible first | exact HB.out | apply below_alloc | apply pw_below_drewN | apply below_drew1 | refine below_set ?_ GE144.out) | exact HB.out)⟩⟩
                                  · rw [if_neg c29] at H
                                    have c29b0 : ((bt a0 x6_3) == 95) = false := beq_eq_false_iff_ne.mpr c29
                                    have c29b1 : ((bt a0 x6_3) != 95) = true := bne_iff_ne.mpr c29
                                    by_cases c30 : 0 ≤ x6_1
                                    · rw [if_pos c30] at H
                                      have c30b0 := eq_true c30
                                      have c30b1 : decide (0 ≤ x6_1) = true := decide_eq_true c30
                                      clear c30
                                      by_cases c31 : x6_1 ≤ x6_3
                                      · rw [if_pos c31] at H
                                        have c31b0 := eq_true c31
                                        have c31b1 : decide (x6_1 ≤ x6_3) = true := decide_eq_true c31
                                        clear c31
                                        by_cases c32 : x6_3 ≤ (a0.size : Int)
                                        · rw [if_pos c32] at H
                                          have c32b0 := eq_true c32
                                          have c32b1 : decide (x6_3 ≤ (a0.size : Int)) = true := decide_eq_true c32
                                          clear c32
                                          by_cases c33 : x5_1.length < 3518437208883
                                          · rw [if_pos c33] at H
                                            have LMc33 := Aside0.mk c33
                                            clear c33
                                            obtain ⟨y148, hy148⟩ : ∃ y_ : List (S68), y_ = (x5_1 ++ [(⟨1, a0.extract (x6_1 : Int).toNat (x6_3 : Int).toNat, 0, x6_1⟩ : S68)]) := ⟨_, rfl⟩
                                            replace H : (stratagemref07_Scan.l0 k3 a0 y148 x6_3) = some (r1, r2, r3) := by first | (rw [hy148]; with_reducible exact H) | (have H2_ := (Option.bind_some _ _).symm.trans H; rw [hy148]; with_reducible exact H2_) | (have H2_ := (Option.bind_some _ _).symm.trans H; with_reducible exact H2_) | with_reducible exact H | (rw [hy148]; exact H) | exact H
                                            have Ny148 := Aside0.mk hy148
                                            clear hy148
                                            have H' := Aside0.mk H
                                            clear H
                                            have p22 : 0 ≤ (x6_3 : Int) := of_decide_eq_true (by first | (with_reducible assumption) | assumption)
                                            have q22 : x6_3 < (a0.size : Int) := of_decide_eq_true (by first | (with_reducible assumption) | assumption)
                                            have hx22 := bt_at a0 x6_3
                                            replace p22 := eq_true p22
                                            replace q22 := eq_true q22
                                            go_wp2_with (first | (go_at_call 40; (with_reducible refine (stratagemref07_word.calls (bt a0 x6_3) false _ A23.out).mono ?_); rintro e w' ⟨rfl, ⟨nd, rfl⟩⟩; (try (rw [drewN_self wr]; generalize hq_ : World.drewN wr _ = wr; have n0_ : Aside0 (Kd.R k68 68 wr w.heap.size (fun k_ => k_ ≠ gb144) u5 x5_1) := ⟨by rw [← hq_]; exact (by (with_reducible repeat (first | apply Kd.R_alloc | apply Kd.R_drewN | apply Kd.R_drew)); exact HO_5.out)⟩; have n1_ : Aside0 (wr.heap[gb144]? = some (.cells #[.int .i64 1, .string (⟨#[]⟩ : ByteArray), .int .i64 0, .int .i64 x6_1] 68 (0, 0))) := ⟨by rw [← hq_]; exact (by (with_reducible repeat (first | refine blk_drewN ?_ _ | refine blk_drew ?_ | refine blk_alloc ?_ _)); exact BK144.out)⟩; have n2_ : Aside0 (Below w.heap.size w wr) := ⟨by rw [← hq_]; exact (by repeat (first | (with_reducible first | exact HB.out | apply below_alloc | apply pw_below_drewN | apply below_drew1 | refine below_set ?_ GE144.out) | exact HB.out))⟩; clear HO_5 BK144 HB hq_; have HO_5 := n0_; have BK144 := n1_; have HB := n2_; clear n0_ n1_ n2_)); have p25 : 0 ≤ (x6_3 : Int) := of_decide_eq_true (by first | (with_reducible assumption) | assumption); have q25 : x6_3 < (a0.size : Int) := of_decide_eq_true (by first | (with_reducible assumption) | assumption); have hx25 := bt_at a0 x6_3; replace p25 := eq_true p25; replace q25 := eq_true q25) | (go_at_call 41; (with_reducible refine (stratagemref07_digit.calls (bt a0 x6_3) false _ A26.out).mono ?_); rintro e w' ⟨rfl, ⟨nd, rfl⟩⟩; (try (rw [drewN_self wr]; generalize hq_ : World.drewN wr _ = wr; have n0_ : Aside0 (Kd.R k68 68 wr w.heap.size (fun k_ => k_ ≠ gb144) u5 x5_1) := ⟨by rw [← hq_]; exact (by (with_reducible repeat (first | apply Kd.R_alloc | apply Kd.R_drewN | apply Kd.R_drew)); exact HO_5.out)⟩; have n1_ : Aside0 (wr.heap[gb144]? = some (.cells #[.int .i64 1, .string (⟨#[]⟩ : ByteArray), .int .i64 0, .int .i64 x6_1] 68 (0, 0))) := ⟨by rw [← hq_]; exact (by (with_reducible repeat (first | refine blk_drewN ?_ _ | refine blk_drew ?_ | refine blk_alloc ?_ _)); exact BK144.out)⟩; have n2_ : Aside0 (Below w.heap.size w wr) := ⟨by rw [← hq_]; exact (by repeat (first | (with_reducible first | exact HB.out | apply below_alloc | apply pw_below_drewN | apply below_drew1 | refine below_set ?_ GE144.out) | exact HB.out))⟩; clear HO_5 BK144 HB hq_; have HO_5 := n0_; have BK144 := n1_; have HB := n2_; clear n0_ n1_ n2_)); have p28 : 0 ≤ (x6_3 : Int) := of_decide_eq_true (by first | (with_reducible assumption) | assumption); have q28 : x6_3 < (a0.size : Int) := of_decide_eq_true (by first | (with_reducible assumption) | assumption); have hx28 := bt_at a0 x6_3; replace p28 := eq_true p28; replace q28 := eq_true q28; have hcz34_0 : wr.cell? ⟨gb144, 0, none⟩ = some (.int .i64 1) := (blk_cell BK144.out 0).trans rfl; have hcz34_1 : wr.cell? ⟨gb144, 1, none⟩ = some (.string (⟨#[]⟩ : ByteArray)) := (blk_cell BK144.out 1).trans rfl; have hcz34_2 : wr.cell? ⟨gb144, 2, none⟩ = some (.int .i64 0) := (blk_cell BK144.out 2).trans rfl; have hcz34_3 : wr.cell? ⟨gb144, 3, none⟩ = some (.int .i64 x6_1) := (blk_cell BK144.out 3).trans rfl; have hfz34_0 := blk_frozen BK144.out 0; have hfz34_1 := blk_frozen BK144.out 1; have hfz34_2 := blk_frozen BK144.out 2; have hfz34_3 := blk_frozen BK144.out 3) | ((with_reducible refine gate_builtin (b := .append) (xs := #[.tmp 130, .tmp 132]) rfl ?_); at_builtin; refine Kd.R_append k68 (w0 := w) w.heap.size rfl (.tmp 130) (.tmp 132) 50 68 (.agg #[(.int .i64 0), (.string ⟨#[]⟩), (.int .i64 0), (.int .i64 0)]) 40 rfl Try.underlying50 info68 rfl (by decide) (by omega) u5 x5_1 (⟨1, a0.extract (x6_1 : Int).toNat (x6_3 : Int).toNat, 0, x6_1⟩ : S68) [.int .i64 1, .string (a0.extract (x6_1 : Int).toNat (x6_3 : Int).toNat), .int .i64 0, .int .i64 x6_1] (fun k_ => k_ ≠ gb144) (fun _ => False) rfl (by first | (go_simp; done) | (go_simp; rfl)) ?aP (fun _ hk => hk.elim) ?aF ?aO ?aB ?aS ?aL ?_; (case aP => exact k68_mkM _ _ _ (⟨1, a0.extract (x6_1 : Int).toNat (x6_3 : Int).toNat, 0, x6_1⟩ : S68)); (case aB => exact (by repeat (first | (with_reducible first | exact HB.out | apply below_alloc | apply pw_below_drewN | apply below_drew1 | refine below_set ?_ GE144.out) | exact HB.out))); (case aF => exact (fun k_ hk => Kd.freshB (g := gb144) (o := .cells #[.int .i64 1, .string (a0.extract (x6_1 : Int).toNat (x6_3 : Int).toNat), .int .i64 0, .int .i64 x6_1] 68 (0, 0)) (by (with_reducible repeat (first | refine blk_drewN ?_ _ | refine blk_drew ?_ | refine blk_alloc ?_ _)); refine blk_put (cs := #[.int .i64 1, .string (⟨#[]⟩ : ByteArray), .int .i64 0, .int .i64 x6_1]) ?_ 1 _ rfl; (with_reducible repeat (first | refine blk_drewN ?_ _ | refine blk_drew ?_ | refine blk_alloc ?_ _)); exact BK144.out) k_ hk)); (case aO => exact (by (with_reducible repeat (first | apply Kd.R_alloc | apply Kd.R_drewN | apply Kd.R_drew)); exact Kd.R_mono (Kd.R_far (p := ⟨gb144, 1, none⟩) (Kd.R_mono HO_5.out (fun k_ hk => (⟨hk, hk⟩ : _ ∧ k_ ≠ gb144))) (fun _ hk => hk.2) (.string (a0.extract (x6_1 : Int).toNat (x6_3 : Int).toNat))) (fun _ hk => hk.1))); (case aS => exact (below_size (by repeat (first | (with_reducible first | exact HB.out | apply below_alloc | apply pw_below_drewN | apply below_drew1 | refine below_set ?_ GE144.out) | exact HB.out)))); (case aL => have := LMc33.out; omega); intro v149 w35 ho hb hg hat; rw [← Ny148.out] at ho; have n0_ := Aside0.mk (blk_grown (g := gb144) (o := .cells #[.int .i64 1, .string (a0.extract (x6_1 : Int).toNat (x6_3 : Int).toNat), .int .i64 0, .int .i64 x6_1] 68 (0, 0)) (by (with_reducible repeat (first | refine blk_drewN ?_ _ | refine blk_drew ?_ | refine blk_alloc ?_ _)); refine blk_put (cs := #[.int .i64 1, .string (⟨#[]⟩ : ByteArray), .int .i64 0, .int .i64 x6_1]) ?_ 1 _ rfl; (with_reducible repeat (first | refine blk_drewN ?_ _ | refine blk_drew ?_ | refine blk_alloc ?_ _)); exact BK144.out) hg (Kd.R_away HO_5.out (fun _ hk => hk))); have n1_ := Aside0.mk (hb); have n2_ := Aside0.mk (ho); clear BK144; clear HB; clear HO_5; have BK144 := n0_; have HB := n1_; have HO150 := n2_; clear n0_ n1_ n2_; clear ho hb hg hat))
                                            go_roundg k3
                                            case measure => have := HK1.out; have := HJ5.out; have := HK3.out; omega
                                            case rel => exact ⟨(y148), (x6_3), (by first | rfl | (simp; done) | (simp [*]; done)), H', ⟨by have := HK1.out; have := HJ5.out; have := HK3.out; omega⟩, ⟨by (with_reducible repeat (first | apply Kd.R_alloc | apply Kd.R_drewN | apply Kd.R_drew)); exact Kd.R_mono HO150.out (fun _ hk => trivial)⟩, ⟨by repeat (first | (with_reducible first | exact HB.out | apply below_alloc | apply pw_below_drewN | apply below_drew1 | refine below_set ?_ GE144.out) | exact HB.out)⟩⟩
                                          · rw [if_neg c33] at H
                                            exact absurd H (by simp)
                                        · rw [if_neg c32] at H
                                          exact absurd H (by simp)
                                      · rw [if_neg c31] at H
                                        exact absurd H (by simp)
                                    · rw [if_neg c30] at H
                                      exact absurd H (by simp)
                            · rw [if_neg c21] at H
                              exact absurd H (by simp)
                          · rw [if_neg c20] at H
                            have c20b0 : decide (x6_3 < (a0.size : Int)) = false := decide_eq_false c20
                            clear c20
                            by_cases c36 : 0 ≤ x6_1
                            · rw [if_pos c36] at H
                              have c36b0 := eq_true c36
                              have c36b1 : decide (0 ≤ x6_1) = true := decide_eq_true c36
                              clear c36
                              by_cases c37 : x6_1 ≤ x6_3
                              · rw [if_pos c37] at H
                                have c37b0 := eq_true c37
                                have c37b1 : decide (x6_1 ≤ x6_3) = true := decide_eq_true c37
                                clear c37
                                by_cases c38 : x6_3 ≤ (a0.size : Int)
                                · rw [if_pos c38] at H
                                  have c38b0 := eq_true c38
                                  have c38b1 : decide (x6_3 ≤ (a0.size : Int)) = true := decide_eq_true c38
                                  clear c38
                                  by_cases c39 : x5_1.length < 3518437208883
                                  · rw [if_pos c39] at H
                                    have LMc39 := Aside0.mk c39
                                    clear c39
                                    obtain ⟨y151, hy151⟩ : ∃ y_ : List (S68), y_ = (x5_1 ++ [(⟨1, a0.extract (x6_1 : Int).toNat (x6_3 : Int).toNat, 0, x6_1⟩ : S68)]) := ⟨_, rfl⟩
                                    replace H : (stratagemref07_Scan.l0 k3 a0 y151 x6_3) = some (r1, r2, r3) := by first | (rw [hy151]; with_reducible exact H) | (have H2_ := (Option.bind_some _ _).symm.trans H; rw [hy151]; with_reducible exact H2_) | (have H2_ := (Option.bind_some _ _).symm.trans H; with_reducible exact H2_) | with_reducible exact H | (rw [hy151]; exact H) | exact H
                                    have Ny151 := Aside0.mk hy151
                                    clear hy151
                                    have H' := Aside0.mk H
                                    clear H
                                    have hcz40_0 : wr.cell? ⟨gb144, 0, none⟩ = some (.int .i64 1) := (blk_cell BK144.out 0).trans rfl
                                    have hcz40_1 : wr.cell? ⟨gb144, 1, none⟩ = some (.string (⟨#[]⟩ : ByteArray)) := (blk_cell BK144.out 1).trans rfl
                                    have hcz40_2 : wr.cell? ⟨gb144, 2, none⟩ = some (.int .i64 0) := (blk_cell BK144.out 2).trans rfl
                                    have hcz40_3 : wr.cell? ⟨gb144, 3, none⟩ = some (.int .i64 x6_1) := (blk_cell BK144.out 3).trans rfl
                                    have hfz40_0 := blk_frozen BK144.out 0
                                    have hfz40_1 := blk_frozen BK144.out 1
                                    have hfz40_2 := blk_frozen BK144.out 2
                                    have hfz40_3 := blk_frozen BK144.out 3
                                    go_wp2_with (first | ((with_reducible refine gate_builtin (b := .append) (xs := #[.tmp 130, .tmp 132]) rfl ?_); at_builtin; refine Kd.R_append k68 (w0 := w) w.heap.size rfl (.tmp 130) (.tmp 132) 50 68 (.agg #[(.int .i64 0), (.string ⟨#[]⟩), (.int .i64 0), (.int .i64 0)]) 40 rfl Try.underlying50 info68 rfl (by decide) (by omega) u5 x5_1 (⟨1, a0.extract (x6_1 : Int).toNat (x6_3 : Int).toNat, 0, x6_1⟩ : S68) [.int .i64 1, .string (a0.extract (x6_1 : Int).toNat (x6_3 : Int).toNat), .int .i64 0, .int .i64 x6_1] (fun k_ => k_ ≠ gb144) (fun _ => False) rfl (by first | (go_simp; done) | (go_simp; rfl)) ?aP (fun _ hk => hk.elim) ?aF ?aO ?aB ?aS ?aL ?_; (case aP => exact k68_mkM _ _ _ (⟨1, a0.extract (x6_1 : Int).toNat (x6_3 : Int).toNat, 0, x6_1⟩ : S68)); (case aB => exact (by repeat (first | (with_reducible first | exact HB.out | apply below_alloc | apply pw_below_drewN | apply below_drew1 | refine below_set ?_ GE144.out) | exact HB.out))); (case aF => exact (fun k_ hk => Kd.freshB (g := gb144) (o := .cells #[.int .i64 1, .string (a0.extract (x6_1 : Int).toNat (x6_3 : Int).toNat), .int .i64 0, .int .i64 x6_1] 68 (0, 0)) (by (with_reducible repeat (first | refine blk_drewN ?_ _ | refine blk_drew ?_ | refine blk_alloc ?_ _)); refine blk_put (cs := #[.int .i64 1, .string (⟨#[]⟩ : ByteArray), .int .i64 0, .int .i64 x6_1]) ?_ 1 _ rfl; (with_reducible repeat (first | refine blk_drewN ?_ _ | refine blk_drew ?_ | refine blk_alloc ?_ _)); exact BK144.out) k_ hk)); (case aO => exact (by (with_reducible repeat (first | apply Kd.R_alloc | apply Kd.R_drewN | apply Kd.R_drew)); exact Kd.R_mono (Kd.R_far (p := ⟨gb144, 1, none⟩) (Kd.R_mono HO_5.out (fun k_ hk => (⟨hk, hk⟩ : _ ∧ k_ ≠ gb144))) (fun _ hk => hk.2) (.string (a0.extract (x6_1 : Int).toNat (x6_3 : Int).toNat))) (fun _ hk => hk.1))); (case aS => exact (below_size (by repeat (first | (with_reducible first | exact HB.out | apply below_alloc | apply pw_below_drewN | apply below_drew1 | refine below_set ?_ GE144.out) | exact HB.out)))); (case aL => have := LMc39.out; omega); intro v152 w41 ho hb hg hat; rw [← Ny151.out] at ho; have n0_ := Aside0.mk (blk_grown (g := gb144) (o := .cells #[.int .i64 1, .string (a0.extract (x6_1 : Int).toNat (x6_3 : Int).toNat), .int .i64 0, .int .i64 x6_1] 68 (0, 0)) (by (with_reducible repeat (first | refine blk_drewN ?_ _ | refine blk_drew ?_ | refine blk_alloc ?_ _)); refine blk_put (cs := #[.int .i64 1, .string (⟨#[]⟩ : ByteArray), .int .i64 0, .int .i64 x6_1]) ?_ 1 _ rfl; (with_reducible repeat (first | refine blk_drewN ?_ _ | refine blk_drew ?_ | refine blk_alloc ?_ _)); exact BK144.out) hg (Kd.R_away HO_5.out (fun _ hk => hk))); have n1_ := Aside0.mk (hb); have n2_ := Aside0.mk (ho); clear BK144; clear HB; clear HO_5; have BK144 := n0_; have HB := n1_; have HO153 := n2_; clear n0_ n1_ n2_; clear ho hb hg hat))
                                    go_roundg k3
                                    case measure => have := HK1.out; have := HJ5.out; have := HK3.out; omega
                                    case rel => exact ⟨(y151), (x6_3), (by first | rfl | (simp; done) | (simp [*]; done)), H', ⟨by have := HK1.out; have := HJ5.out; have := HK3.out; omega⟩, ⟨by (with_reducible repeat (first | apply Kd.R_alloc | apply Kd.R_drewN | apply Kd.R_drew)); exact Kd.R_mono HO153.out (fun _ hk => trivial)⟩, ⟨by repeat (first | (with_reducible first | exact HB.out | apply below_alloc | apply pw_below_drewN | apply below_drew1 | refine below_set ?_ GE144.out) | exact HB.out)⟩⟩
                                  · rw [if_neg c39] at H
                                    exact absurd H (by simp)
                                · rw [if_neg c38] at H
                                  exact absurd H (by simp)
                              · rw [if_neg c37] at H
                                exact absurd H (by simp)
                            · rw [if_neg c36] at H
                              exact absurd H (by simp)
                    · replace c18 := Bool.eq_false_iff.mpr c18
                      subst c18
                      have H1 : ((stratagemref07_digit.f (bt a0 x6_1)).bind fun t154 => (if t154 = true then (stratagemref07_Scan.l2 kj5 a0 x5_1 (wrap64 (x6_1 + 1)) x6_1 2 (⟨#[]⟩ : ByteArray) 0 x6_1) else (if (wrap64 (x6_1 + 1)) < (a0.size : Int) then (if 0 ≤ (wrap64 (x6_1 + 1)) then ((stratagemref07_pair.f (bt a0 x6_1) (bt a0 (wrap64 (x6_1 + 1)))).bind fun t159 => (stratagemref07_Scan.j6 kj5 a0 x5_1 (wrap64 (x6_1 + 1)) x6_1 t159 3 (⟨#[]⟩ : ByteArray) 0 x6_1)) else (none)) else (stratagemref07_Scan.j6 kj5 a0 x5_1 (wrap64 (x6_1 + 1)) x6_1 false 3 (⟨#[]⟩ : ByteArray) 0 x6_1)))) = some (r1, r2, r3) := by rw [if_neg (show ¬ (false = true) by decide)] at H; exact H
                      clear H
                      have H := H1
                      clear H1
                      replace H := Option.bind_eq_some_iff.mp H
                      obtain ⟨t154, A430, H⟩ := H
                      replace H : (if t154 = true then (stratagemref07_Scan.l2 kj5 a0 x5_1 (wrap64 (x6_1 + 1)) x6_1 2 (⟨#[]⟩ : ByteArray) 0 x6_1) else (if (wrap64 (x6_1 + 1)) < (a0.size : Int) then (if 0 ≤ (wrap64 (x6_1 + 1)) then ((stratagemref07_pair.f (bt a0 x6_1) (bt a0 (wrap64 (x6_1 + 1)))).bind fun t159 => (stratagemref07_Scan.j6 kj5 a0 x5_1 (wrap64 (x6_1 + 1)) x6_1 t159 3 (⟨#[]⟩ : ByteArray) 0 x6_1)) else (none)) else (stratagemref07_Scan.j6 kj5 a0 x5_1 (wrap64 (x6_1 + 1)) x6_1 false 3 (⟨#[]⟩ : ByteArray) 0 x6_1))) = some (r1, r2, r3) := H
                      have A43 := Aside0.mk A430
                      clear A430
                      by_cases c44 : t154 = true
                      · subst c44
                        have H1 : (stratagemref07_Scan.l2 kj5 a0 x5_1 (wrap64 (x6_1 + 1)) x6_1 2 (⟨#[]⟩ : ByteArray) 0 x6_1) = some (r1, r2, r3) := by rw [if_pos rfl] at H; exact H
                        clear H
                        have H := H1
                        clear H1
                        have HC45 := Aside0.mk H
                        clear H
                        have p16 : 0 ≤ (x6_1 : Int) := of_decide_eq_true (by first | (with_reducible assumption) | assumption)
                        have q16 : x6_1 < (a0.size : Int) := of_decide_eq_true (by first | (with_reducible assumption) | assumption)
                        have hx16 := bt_at a0 x6_1
                        replace p16 := eq_true p16
                        replace q16 := eq_true q16
                        go_upto_block 5 with (first | ((with_reducible refine gate_callee (f := 40) rfl ?_); refine goesL_ (some 38) rfl rfl Try.func40 (by kernel_rfl) rfl #[.int .u8 (bt a0 x6_1)] rfl (by (try simp only [List.map_toArray, List.map_cons, List.map_nil]); first | done | rfl | (simp only [List.length_drop, List.length_take]; rfl)) ?_; (with_reducible refine (stratagemref07_word.calls (bt a0 x6_1) false _ A17.out).mono ?_); rintro e w' ⟨rfl, ⟨nd, rfl⟩⟩; refine ⟨_, rfl, ?_⟩; (try (rw [drewN_self wc]; generalize hq_ : World.drewN wc _ = wc; have n0_ : Aside0 (Kd.R k68 68 wc w.heap.size (fun k_ => k_ ≠ gb144) u5 x5_1) := ⟨by rw [← hq_]; exact (by (with_reducible repeat (first | apply Kd.R_alloc | apply Kd.R_drewN | apply Kd.R_drew)); exact HO_5.out)⟩; have n1_ : Aside0 (wc.heap[gb144]? = some (.cells #[.int .i64 3, .string (⟨#[]⟩ : ByteArray), .int .i64 0, .int .i64 x6_1] 68 (0, 0))) := ⟨by rw [← hq_]; exact (by (with_reducible repeat (first | refine blk_drewN ?_ _ | refine blk_drew ?_ | refine blk_alloc ?_ _)); exact BK144.out)⟩; have n2_ : Aside0 (Below w.heap.size w wc) := ⟨by rw [← hq_]; exact (by repeat (first | (with_reducible first | exact HB.out | apply below_alloc | apply pw_below_drewN | apply below_drew1 | refine below_set ?_ GE144.out) | exact HB.out))⟩; clear HO_5 BK144 HB hq_; have HO_5 := n0_; have BK144 := n1_; have HB := n2_; clear n0_ n1_ n2_)); have p42 : 0 ≤ (x6_1 : Int) := of_decide_eq_true (by first | (with_reducible assumption) | assumption); have q42 : x6_1 < (a0.size : Int) := of_decide_eq_true (by first | (with_reducible assumption) | assumption); have hx42 := bt_at a0 x6_1; replace p42 := eq_true p42; replace q42 := eq_true q42) | ((with_reducible refine gate_callee (f := 41) rfl ?_); refine goesL_ (some 68) rfl rfl Try.func41 (by kernel_rfl) rfl #[.int .u8 (bt a0 x6_1)] rfl (by (try simp only [List.map_toArray, List.map_cons, List.map_nil]); first | done | rfl | (simp only [List.length_drop, List.length_take]; rfl)) ?_; (with_reducible refine (stratagemref07_digit.calls (bt a0 x6_1) true _ A43.out).mono ?_); rintro e w' ⟨rfl, ⟨nd, rfl⟩⟩; refine ⟨_, rfl, ?_⟩; (try (rw [drewN_self wc]; generalize hq_ : World.drewN wc _ = wc; have n0_ : Aside0 (Kd.R k68 68 wc w.heap.size (fun k_ => k_ ≠ gb144) u5 x5_1) := ⟨by rw [← hq_]; exact (by (with_reducible repeat (first | apply Kd.R_alloc | apply Kd.R_drewN | apply Kd.R_drew)); exact HO_5.out)⟩; have n1_ : Aside0 (wc.heap[gb144]? = some (.cells #[.int .i64 3, .string (⟨#[]⟩ : ByteArray), .int .i64 0, .int .i64 x6_1] 68 (0, 0))) := ⟨by rw [← hq_]; exact (by (with_reducible repeat (first | refine blk_drewN ?_ _ | refine blk_drew ?_ | refine blk_alloc ?_ _)); exact BK144.out)⟩; have n2_ : Aside0 (Below w.heap.size w wc) := ⟨by rw [← hq_]; exact (by repeat (first | (with_reducible first | exact HB.out | apply below_alloc | apply pw_below_drewN | apply below_drew1 | refine below_set ?_ GE144.out) | exact HB.out))⟩; clear HO_5 BK144 HB hq_; have HO_5 := n0_; have BK144 := n1_; have HB := n2_; clear n0_ n1_ n2_)); have hcz46_0 : wc.cell? ⟨gb144, 0, none⟩ = some (.int .i64 3) := (blk_cell BK144.out 0).trans rfl; have hcz46_1 : wc.cell? ⟨gb144, 1, none⟩ = some (.string (⟨#[]⟩ : ByteArray)) := (blk_cell BK144.out 1).trans rfl; have hcz46_2 : wc.cell? ⟨gb144, 2, none⟩ = some (.int .i64 0) := (blk_cell BK144.out 2).trans rfl; have hcz46_3 : wc.cell? ⟨gb144, 3, none⟩ = some (.int .i64 x6_1) := (blk_cell BK144.out 3).trans rfl; have hfz46_0 := blk_frozen BK144.out 0; have hfz46_1 := blk_frozen BK144.out 1; have hfz46_2 := blk_frozen BK144.out 2; have hfz46_3 := blk_frozen BK144.out 3))
                        (try simp only [Act.put, List.setIfInBounds_toArray, List.set_cons_zero, List.set_cons_succ])
                        go_cut [6] (fun v6 wc => ∃ (kq : Nat) (x6_44 : Int), v6 = .int .i64 x6_44 ∧ Aside0 (stratagemref07_Scan.j4 kq a0 x5_1 x6_44 x6_1 2 (⟨#[]⟩ : ByteArray) 0 x6_1 = some (r1, r2, r3)) ∧ Aside0 (kq ≤ kj5) ∧ Aside0 (Kd.R k68 68 wc w.heap.size (fun k_ => k_ ≠ gb144) u5 x5_1) ∧ Aside0 (wc.heap[gb144]? = some (.cells #[.int .i64 2, .string (⟨#[]⟩ : ByteArray), .int .i64 0, .int .i64 x6_1] 68 (0, 0))) ∧ Aside0 (Below w.heap.size w wc))
                        case first =>
                          have H := HC45.out
                          clear HC45
                          have H' := Aside0.mk H
                          clear H
                          go_wp2
                          go_loopg [6] kj5 (fun kq v6 w' => ∃ (x6_3 : Int), v6 = .int .i64 x6_3 ∧ Aside0 (stratagemref07_Scan.l2 kq a0 x5_1 x6_3 x6_1 2 (⟨#[]⟩ : ByteArray) 0 x6_1 = some (r1, r2, r3)) ∧ Aside0 (kq ≤ kj5) ∧ Aside0 (Kd.R k68 68 w' w.heap.size (fun k_ => k_ ≠ gb144) u5 x5_1) ∧ Aside0 (w'.heap[gb144]? = some (.cells #[.int .i64 2, .string (⟨#[]⟩ : ByteArray), .int .i64 0, .int .i64 x6_1] 68 (0, 0))) ∧ Aside0 (Below w.heap.size w w'))
                          case atStart => exact ⟨((wrap64 (x6_1 + 1))), (by first | rfl | (simp; done) | (simp [*]; done)), H', ⟨Nat.le_refl _⟩, ⟨by (with_reducible repeat (first | apply Kd.R_alloc | apply Kd.R_drewN | apply Kd.R_drew)); exact Kd.R_mono (Kd.R_far (p := ⟨gb144, 0, none⟩) (Kd.R_mono HO_5.out (fun k_ hk => (⟨hk, hk⟩ : _ ∧ k_ ≠ gb144))) (fun _ hk => hk.2) (.int .i64 2)) (fun _ hk => hk.1)⟩, ⟨by (with_reducible repeat (first | refine blk_drewN ?_ _ | refine blk_drew ?_ | refine blk_alloc ?_ _)); refine blk_put (cs := #[.int .i64 3, .string (⟨#[]⟩ : ByteArray), .int .i64 0, .int .i64 x6_1]) ?_ 0 _ rfl; (with_reducible repeat (first | refine blk_drewN ?_ _ | refine blk_drew ?_ | refine blk_alloc ?_ _)); exact BK144.out⟩, ⟨by repeat (first | (with_reducible first | exact HB.out | apply below_alloc | apply pw_below_drewN | apply below_drew1 | refine below_set ?_ GE144.out) | exact HB.out)⟩⟩
                          case round =>
                            clear H'
                            try clear c1
                            try clear p1
                            try clear q1
                            try clear hx1
                            try clear c2
                            try clear c2b0
                            try clear c2b1
                            try clear p2
                            try clear q2
                            try clear hx2
                            try clear c3
                            try clear c4
                            try clear p4
                            try clear q4
                            try clear hx4
                            try clear c5
                            try clear c5b0
                            try clear p6
                            try clear c9
                            try clear c9b0
                            try clear p10
                            try clear q10
                            try clear hx10
                            try clear c11
                            try clear c11b0
                            try clear c11b1
                            try clear p12
                            try clear q12
                            try clear hx12
                            try clear c13
                            try clear c14
                            try clear c14b0
                            try clear c15
                            try clear c15b0
                            try clear p16
                            try clear q16
                            try clear hx16
                            try clear c18
                            try clear c20
                            try clear c20b0
                            try clear c21
                            try clear c21b0
                            try clear p22
                            try clear q22
                            try clear hx22
                            try clear c24
                            try clear p25
                            try clear q25
                            try clear hx25
                            try clear c27
                            try clear p28
                            try clear q28
                            try clear hx28
                            try clear c29
                            try clear c29b0
                            try clear c29b1
                            try clear c30
                            try clear c30b0
                            try clear c30b1
                            try clear c31
                            try clear c31b0
                            try clear c31b1
                            try clear c32
                            try clear c32b0
                            try clear c32b1
                            try clear c33
                            try clear c36
                            try clear c36b0
                            try clear c36b1
                            try clear c37
                            try clear c37b0
                            try clear c37b1
                            try clear c38
                            try clear c38b0
                            try clear c38b1
                            try clear c39
                            try clear c40
                            try clear c41
                            try clear p42
                            try clear q42
                            try clear hx42
                            try clear c44
                            try clear hcz19_0
                            try clear hcz19_1
                            try clear hcz19_2
                            try clear hcz19_3
                            try clear hcz34_0
                            try clear hcz34_1
                            try clear hcz34_2
                            try clear hcz34_3
                            try clear hcz40_0
                            try clear hcz40_1
                            try clear hcz40_2
                            try clear hcz40_3
                            try clear hcz46_0
                            try clear hcz46_1
                            try clear hcz46_2
                            try clear hcz46_3
                            try clear hcz8_0
                            try clear hcz8_1
                            try clear hcz8_2
                            try clear hcz8_3
                            try clear hfz19_0
                            try clear hfz19_1
                            try clear hfz19_2
                            try clear hfz19_3
                            try clear hfz34_0
                            try clear hfz34_1
                            try clear hfz34_2
                            try clear hfz34_3
                            try clear hfz40_0
                            try clear hfz40_1
                            try clear hfz40_2
                            try clear hfz40_3
                            try clear hfz46_0
                            try clear hfz46_1
                            try clear hfz46_2
                            try clear hfz46_3
                            try clear hfz8_0
                            try clear hfz8_1
                            try clear hfz8_2
                            try clear hfz8_3
                            try clear p1
                            try clear p10
                            try clear p12
                            try clear p16
                            try clear p2
                            try clear p22
                            try clear p25
                            try clear p28
                            try clear p42
                            try clear p6
                            try clear q1
                            try clear q10
                            try clear q12
                            try clear q16
                            try clear q22
                            try clear q25
                            try clear q28
                            try clear q42
                            obtain ⟨x6_3, rfl, HA, HK3, HO_5, BK144, HB⟩ := hrel
                            cases gk with
                            | zero => exact absurd HA.out (by simp [stratagemref07_Scan.l2])
                            | succ k3 =>
                              have H := HA.out
                              clear HA
                              simp only [stratagemref07_Scan.l2] at H
                              by_cases c47 : x6_3 < (a0.size : Int)
                              · rw [if_pos c47] at H
                                have c47b0 : decide (x6_3 < (a0.size : Int)) = true := decide_eq_true c47
                                clear c47
                                (first | rw [c47b0] | (simp only [i64_w, i32_w]; rw [c47b0]) | skip)
                                by_cases c48 : 0 ≤ x6_3
                                · rw [if_pos c48] at H
                                  have c48b0 : decide (0 ≤ x6_3) = true := decide_eq_true c48
                                  clear c48
                                  replace H := Option.bind_eq_some_iff.mp H
                                  obtain ⟨t155, A500, H⟩ := H
                                  replace H : (if t155 = true then (stratagemref07_Scan.l2 k3 a0 x5_1 (wrap64 (x6_3 + 1)) x6_1 2 (⟨#[]⟩ : ByteArray) 0 x6_1) else (stratagemref07_Scan.j4 k3 a0 x5_1 x6_3 x6_1 2 (⟨#[]⟩ : ByteArray) 0 x6_1)) = some (r1, r2, r3) := H
                                  have A50 := Aside0.mk A500
                                  clear A500
                                  by_cases c51 : t155 = true
                                  · subst c51
                                    have H1 : (stratagemref07_Scan.l2 k3 a0 x5_1 (wrap64 (x6_3 + 1)) x6_1 2 (⟨#[]⟩ : ByteArray) 0 x6_1) = some (r1, r2, r3) := by rw [if_pos rfl] at H; exact H
                                    clear H
                                    have H := H1
                                    clear H1
                                    have H' := Aside0.mk H
                                    clear H
                                    have p49 : 0 ≤ (x6_3 : Int) := of_decide_eq_true (by first | (with_reducible assumption) | assumption)
                                    have q49 : x6_3 < (a0.size : Int) := of_decide_eq_true (by first | (with_reducible assumption) | assumption)
                                    have hx49 := bt_at a0 x6_3
                                    replace p49 := eq_true p49
                                    replace q49 := eq_true q49
                                    go_wp2_with (first | (go_at_call 41; (with_reducible refine (stratagemref07_digit.calls (bt a0 x6_3) true _ A50.out).mono ?_); rintro e w' ⟨rfl, ⟨nd, rfl⟩⟩))
                                    go_roundg k3
                                    case measure => have := HK1.out; have := HJ5.out; have := HK3.out; omega
                                    case rel => exact ⟨(wrap64 (x6_3 + 1)), (by first | rfl | (simp; done) | (simp [*]; done)), H', ⟨by have := HK1.out; have := HJ5.out; have := HK3.out; omega⟩, ⟨by (with_reducible repeat (first | apply Kd.R_alloc | apply Kd.R_drewN | apply Kd.R_drew)); exact HO_5.out⟩, ⟨by (with_reducible repeat (first | refine blk_drewN ?_ _ | refine blk_drew ?_ | refine blk_alloc ?_ _)); exact BK144.out⟩, ⟨by repeat (first | (with_reducible first | exact HB.out | apply below_alloc | apply pw_below_drewN | apply below_drew1 | refine below_set ?_ GE144.out) | exact HB.out)⟩⟩
                                  · replace c51 := Bool.eq_false_iff.mpr c51
                                    subst c51
                                    have H1 : (stratagemref07_Scan.j4 k3 a0 x5_1 x6_3 x6_1 2 (⟨#[]⟩ : ByteArray) 0 x6_1) = some (r1, r2, r3) := by rw [if_neg (show ¬ (false = true) by decide)] at H; exact H
                                    clear H
                                    have H := H1
                                    clear H1
                                    have H' := Aside0.mk H
                                    clear H
                                    have p49 : 0 ≤ (x6_3 : Int) := of_decide_eq_true (by first | (with_reducible assumption) | assumption)
                                    have q49 : x6_3 < (a0.size : Int) := of_decide_eq_true (by first | (with_reducible assumption) | assumption)
                                    have hx49 := bt_at a0 x6_3
                                    replace p49 := eq_true p49
                                    replace q49 := eq_true q49
                                    go_wp2_with (first | (go_at_call 41; (with_reducible refine (stratagemref07_digit.calls (bt a0 x6_3) false _ A50.out).mono ?_); rintro e w' ⟨rfl, ⟨nd, rfl⟩⟩))
                                    go_meet
                                    case rel => exact ⟨_, (x6_3), (by first | rfl | (simp; done) | (simp [*]; done)), H', ⟨by have := HK1.out; have := HJ5.out; have := HK3.out; first | omega | exact Nat.le_refl _⟩, ⟨by (with_reducible repeat (first | apply Kd.R_alloc | apply Kd.R_drewN | apply Kd.R_drew)); exact HO_5.out⟩, ⟨by (with_reducible repeat (first | refine blk_drewN ?_ _ | refine blk_drew ?_ | refine blk_alloc ?_ _)); exact BK144.out⟩, ⟨by repeat (first | (with_reducible first | exact HB.out | apply below_alloc | apply pw_below_drewN | apply below_drew1 | refine below_set ?_ GE144.out) | exact HB.out)⟩⟩
                                · rw [if_neg c48] at H
                                  exact absurd H (by simp)
                              · rw [if_neg c47] at H
                                have c47b0 : decide (x6_3 < (a0.size : Int)) = false := decide_eq_false c47
                                clear c47
                                (first | rw [c47b0] | (simp only [i64_w, i32_w]; rw [c47b0]) | skip)
                                have H' := Aside0.mk H
                                clear H
                                go_wp2
                                go_meet
                                case rel => exact ⟨_, (x6_3), (by first | rfl | (simp; done) | (simp [*]; done)), H', ⟨by have := HK1.out; have := HJ5.out; have := HK3.out; first | omega | exact Nat.le_refl _⟩, ⟨by (with_reducible repeat (first | apply Kd.R_alloc | apply Kd.R_drewN | apply Kd.R_drew)); exact HO_5.out⟩, ⟨by (with_reducible repeat (first | refine blk_drewN ?_ _ | refine blk_drew ?_ | refine blk_alloc ?_ _)); exact BK144.out⟩, ⟨by repeat (first | (with_reducible first | exact HB.out | apply below_alloc | apply pw_below_drewN | apply below_drew1 | refine below_set ?_ GE144.out) | exact HB.out)⟩⟩
                        case rest =>
                          clear HC45
                          try clear c1
                          try clear p1
                          try clear q1
                          try clear hx1
                          try clear c2
                          try clear c2b0
                          try clear c2b1
                          try clear p2
                          try clear q2
                          try clear hx2
                          try clear c3
                          try clear c4
                          try clear p4
                          try clear q4
                          try clear hx4
                          try clear c5
                          try clear c5b0
                          try clear p6
                          try clear c9
                          try clear c9b0
                          try clear p10
                          try clear q10
                          try clear hx10
                          try clear c11
                          try clear c11b0
                          try clear c11b1
                          try clear p12
                          try clear q12
                          try clear hx12
                          try clear c13
                          try clear c14
                          try clear c14b0
                          try clear c15
                          try clear c15b0
                          try clear p16
                          try clear q16
                          try clear hx16
                          try clear c18
                          try clear c20
                          try clear c20b0
                          try clear c21
                          try clear c21b0
                          try clear p22
                          try clear q22
                          try clear hx22
                          try clear c24
                          try clear p25
                          try clear q25
                          try clear hx25
                          try clear c27
                          try clear p28
                          try clear q28
                          try clear hx28
                          try clear c29
                          try clear c29b0
                          try clear c29b1
                          try clear c30
                          try clear c30b0
                          try clear c30b1
                          try clear c31
                          try clear c31b0
                          try clear c31b1
                          try clear c32
                          try clear c32b0
                          try clear c32b1
                          try clear c33
                          try clear c36
                          try clear c36b0
                          try clear c36b1
                          try clear c37
                          try clear c37b0
                          try clear c37b1
                          try clear c38
                          try clear c38b0
                          try clear c38b1
                          try clear c39
                          try clear c40
                          try clear c41
                          try clear p42
                          try clear q42
                          try clear hx42
                          try clear c44
                          try clear c47
                          try clear c47b0
                          try clear c48
                          try clear c48b0
                          try clear p49
                          try clear q49
                          try clear hx49
                          try clear c51
                          try clear hcz19_0
                          try clear hcz19_1
                          try clear hcz19_2
                          try clear hcz19_3
                          try clear hcz34_0
                          try clear hcz34_1
                          try clear hcz34_2
                          try clear hcz34_3
                          try clear hcz40_0
                          try clear hcz40_1
                          try clear hcz40_2
                          try clear hcz40_3
                          try clear hcz46_0
                          try clear hcz46_1
                          try clear hcz46_2
                          try clear hcz46_3
                          try clear hcz8_0
                          try clear hcz8_1
                          try clear hcz8_2
                          try clear hcz8_3
                          try clear hfz19_0
                          try clear hfz19_1
                          try clear hfz19_2
                          try clear hfz19_3
                          try clear hfz34_0
                          try clear hfz34_1
                          try clear hfz34_2
                          try clear hfz34_3
                          try clear hfz40_0
                          try clear hfz40_1
                          try clear hfz40_2
                          try clear hfz40_3
                          try clear hfz46_0
                          try clear hfz46_1
                          try clear hfz46_2
                          try clear hfz46_3
                          try clear hfz8_0
                          try clear hfz8_1
                          try clear hfz8_2
                          try clear hfz8_3
                          try clear p1
                          try clear p10
                          try clear p12
                          try clear p16
                          try clear p2
                          try clear p22
                          try clear p25
                          try clear p28
                          try clear p4
                          try clear p42
                          try clear p49
                          try clear p6
                          try clear q1
                          try clear q10
                          try clear q12
                          try clear q16
                          try clear q2
                          try clear q22
                          try clear q25
                          try clear q28
                          try clear q4
                          try clear q42
                          try clear q49
                          obtain ⟨kq, x6_44, rfl, HA, HJ44, HO_5, BK144, HB⟩ := hcut
                          cases kq with
                          | zero => exact absurd HA.out (by simp [stratagemref07_Scan.j4])
                          | succ kj44 =>
                            have H := HA.out
                            clear HA
                            simp only [stratagemref07_Scan.j4] at H
                            have H' := Aside0.mk H
                            clear H
                            go_wp2
                            go_loopg [9] kj44 (fun kq v9 w' => ∃ (x9_4 : Int) (x145002_4 : Int), v9 = .int .i64 x9_4 ∧ Aside0 (stratagemref07_Scan.l3 kq a0 x5_1 x6_44 x6_1 x9_4 2 (⟨#[]⟩ : ByteArray) x145002_4 x6_1 = some (r1, r2, r3)) ∧ Aside0 (kq ≤ kj44) ∧ Aside0 (Kd.R k68 68 w' w.heap.size (fun k_ => k_ ≠ gb144) u5 x5_1) ∧ Aside0 (w'.heap[gb144]? = some (.cells #[.int .i64 2, .string (⟨#[]⟩ : ByteArray), .int .i64 x145002_4, .int .i64 x6_1] 68 (0, 0))) ∧ Aside0 (Below w.heap.size w w'))
                            case atStart => exact ⟨(x6_1), (0), (by first | rfl | (simp; done) | (simp [*]; done)), H', ⟨Nat.le_refl _⟩, ⟨by (with_reducible repeat (first | apply Kd.R_alloc | apply Kd.R_drewN | apply Kd.R_drew)); exact HO_5.out⟩, ⟨by (with_reducible repeat (first | refine blk_drewN ?_ _ | refine blk_drew ?_ | refine blk_alloc ?_ _)); exact BK144.out⟩, ⟨by repeat (first | (with_reducible first | exact HB.out | apply below_alloc | apply pw_below_drewN | apply below_drew1 | refine below_set ?_ GE144.out) | exact HB.out)⟩⟩
                            case round =>
                              clear H'
                              try clear c1
                              try clear p1
                              try clear q1
                              try clear hx1
                              try clear c2
                              try clear c2b0
                              try clear c2b1
                              try clear p2
                              try clear q2
                              try clear hx2
                              try clear c3
                              try clear c4
                              try clear p4
                              try clear q4
                              try clear hx4
                              try clear c5
                              try clear c5b0
                              try clear p6
                              try clear c9
                              try clear c9b0
                              try clear p10
                              try clear q10
                              try clear hx10
                              try clear c11
                              try clear c11b0
                              try clear c11b1
                              try clear p12
                              try clear q12
                              try clear hx12
                              try clear c13
                              try clear c14
                              try clear c14b0
                              try clear c15
                              try clear c15b0
                              try clear p16
                              try clear q16
                              try clear hx16
                              try clear c18
                              try clear c20
                              try clear c20b0
                              try clear c21
                              try clear c21b0
                              try clear p22
                              try clear q22
                              try clear hx22
                              try clear c24
                              try clear p25
                              try clear q25
                              try clear hx25
                              try clear c27
                              try clear p28
                              try clear q28
                              try clear hx28
                              try clear c29
                              try clear c29b0
                              try clear c29b1
                              try clear c30
                              try clear c30b0
                              try clear c30b1
                              try clear c31
                              try clear c31b0
                              try clear c31b1
                              try clear c32
                              try clear c32b0
                              try clear c32b1
                              try clear c33
                              try clear c36
                              try clear c36b0
                              try clear c36b1
                              try clear c37
                              try clear c37b0
                              try clear c37b1
                              try clear c38
                              try clear c38b0
                              try clear c38b1
                              try clear c39
                              try clear c40
                              try clear c41
                              try clear p42
                              try clear q42
                              try clear hx42
                              try clear c44
                              try clear c47
                              try clear c47b0
                              try clear c48
                              try clear c48b0
                              try clear p49
                              try clear q49
                              try clear hx49
                              try clear c51
                              try clear hcz19_0
                              try clear hcz19_1
                              try clear hcz19_2
                              try clear hcz19_3
                              try clear hcz34_0
                              try clear hcz34_1
                              try clear hcz34_2
                              try clear hcz34_3
                              try clear hcz40_0
                              try clear hcz40_1
                              try clear hcz40_2
                              try clear hcz40_3
                              try clear hcz46_0
                              try clear hcz46_1
                              try clear hcz46_2
                              try clear hcz46_3
                              try clear hcz8_0
                              try clear hcz8_1
                              try clear hcz8_2
                              try clear hcz8_3
                              try clear hfz19_0
                              try clear hfz19_1
                              try clear hfz19_2
                              try clear hfz19_3
                              try clear hfz34_0
                              try clear hfz34_1
                              try clear hfz34_2
                              try clear hfz34_3
                              try clear hfz40_0
                              try clear hfz40_1
                              try clear hfz40_2
                              try clear hfz40_3
                              try clear hfz46_0
                              try clear hfz46_1
                              try clear hfz46_2
                              try clear hfz46_3
                              try clear hfz8_0
                              try clear hfz8_1
                              try clear hfz8_2
                              try clear hfz8_3
                              try clear p1
                              try clear p10
                              try clear p12
                              try clear p16
                              try clear p2
                              try clear p22
                              try clear p25
                              try clear p28
                              try clear p4
                              try clear p42
                              try clear p49
                              try clear p6
                              try clear q1
                              try clear q10
                              try clear q12
                              try clear q16
                              try clear q2
                              try clear q22
                              try clear q25
                              try clear q28
                              try clear q4
                              try clear q42
                              try clear q49
                              obtain ⟨x9_4, x145002_4, rfl, HA, HK4, HO_5, BK144, HB⟩ := hrel
                              cases gk with
                              | zero => exact absurd HA.out (by simp [stratagemref07_Scan.l3])
                              | succ k4 =>
                                have H := HA.out
                                clear HA
                                simp only [stratagemref07_Scan.l3] at H
                                by_cases c52 : x9_4 < x6_44
                                · rw [if_pos c52] at H
                                  have c52b0 : decide (x9_4 < x6_44) = true := decide_eq_true c52
                                  clear c52
                                  by_cases c53 : 0 ≤ x9_4
                                  · rw [if_pos c53] at H
                                    have c53b0 : decide (0 ≤ x9_4) = true := decide_eq_true c53
                                    clear c53
                                    by_cases c54 : x9_4 < (a0.size : Int)
                                    · rw [if_pos c54] at H
                                      have c54b0 : decide (x9_4 < (a0.size : Int)) = true := decide_eq_true c54
                                      clear c54
                                      by_cases c56 : (wrap64 ((wrap64 ((wrap64 (10 * x145002_4)) + (wrap64 (bt a0 x9_4)))) - 48)) > 1099511627776
                                      · rw [if_pos c56] at H
                                        have c56b0 : decide (1099511627776 < (wrap64 ((wrap64 ((wrap64 (10 * x145002_4)) + (wrap64 (bt a0 x9_4)))) - 48))) = true := decide_eq_true c56
                                        clear c56
                                        simp only [Option.some.injEq, Prod.mk.injEq] at H
                                        obtain ⟨rfl, rfl, rfl⟩ := H
                                        try go_wp2
                                        have OHO_5 := HO_5
                                        have OBK144 := BK144
                                        have OHB := HB
                                        have n0_ := Aside0.mk (Kd.R_drew HO_5.out)
                                        have n1_ := Aside0.mk (blk_drew BK144.out)
                                        have n2_ := Aside0.mk (below_drew1 HB.out)
                                        clear HO_5
                                        clear BK144
                                        clear HB
                                        have HO_5 := n0_
                                        have BK144 := n1_
                                        have HB := n2_
                                        clear n0_ n1_ n2_
                                        have p55 : 0 ≤ (x9_4 : Int) := of_decide_eq_true (by first | (with_reducible assumption) | assumption)
                                        have q55 : x9_4 < (a0.size : Int) := of_decide_eq_true (by first | (with_reducible assumption) | assumption)
                                        have hx55 := bt_at a0 x9_4
                                        replace p55 := eq_true p55
                                        replace q55 := eq_true q55
                                        refine start_ (n := 11) (S := fun w' => w'.cell? ⟨gb144, 0, none⟩ = some (.int .i64 2) ∧ w'.cell? ⟨gb144, 1, none⟩ = some (.string (⟨#[]⟩ : ByteArray)) ∧ w'.cell? ⟨gb144, 2, none⟩ = some (.int .i64 x145002_4) ∧ w'.cell? ⟨gb144, 3, none⟩ = some (.int .i64 x6_1)) (ds := [10]) #[false, false, false, false, false, false, false, false, false, false, false] (by kernel_rfl) rfl rfl ⟨(blk_cell BK144.out 0).trans rfl, (blk_cell BK144.out 1).trans rfl, (blk_cell BK144.out 2).trans rfl, (blk_cell BK144.out 3).trans rfl⟩ (fun hHeld => ?_); refine with_tabW stratagemref07_Scan.tab21 stratagemref07_Scan.bits21 (fun HT_ HW_ => ?_)
                                        generalize wr.drew = w57 at HO_5 BK144 HB hHeld ⊢
                                        refine pure_ (i := 0) (N := some 88) (v := ?_) (a' := ?_) #[true, false, false, false, false, false, false, false, false, false, false] rfl rfl (any_of HT_.out (by kernel_rfl)) (fun _ _ _ h => h) (Or.inl ⟨by rfl, ?_⟩) ?_ ?_
                                        rotate_left
                                        · intro w'
                                          go_simp
                                          with_reducible rfl
                                        rotate_left
                                        · simp only [Act.put, List.setIfInBounds_toArray, List.set_cons_zero, List.set_cons_succ, i64_w, i32_w]
                                          rfl
                                        refine pure_ (i := 3) (N := some 91) (v := ?_) (a' := ?_) #[true, false, false, true, false, false, false, false, false, false, false] rfl rfl (any_of HT_.out (by kernel_rfl)) (fun _ _ _ h => h) (Or.inl ⟨by rfl, ?_⟩) ?_ ?_
                                        rotate_left
                                        · intro w'
                                          go_simp
                                          with_reducible rfl
                                        rotate_left
                                        · simp only [Act.put, List.setIfInBounds_toArray, List.set_cons_zero, List.set_cons_succ, i64_w, i32_w]
                                          rfl
                                        refine pure_ (i := 4) (N := some 92) (v := ?_) (a' := ?_) #[true, false, false, true, true, false, false, false, false, false, false] rfl rfl (any_of HT_.out (by kernel_rfl)) (fun _ _ _ h => h) (Or.inl ⟨by rfl, ?_⟩) ?_ ?_
                                        rotate_left
                                        · intro w'
                                          go_simp
                                          with_reducible rfl
                                        rotate_left
                                        · simp only [Act.put, List.setIfInBounds_toArray, List.set_cons_zero, List.set_cons_succ, i64_w, i32_w]
                                          rfl
                                        refine take_ (i := 1) (N := some 89) (v := ?_) (a' := ?_) #[true, true, false, true, true, false, false, false, false, false, false] rfl rfl (take_ofW HT_.out HW_.out (by kernel_rfl)) (fun _ _ _ h => h) (Or.inl ⟨by rfl, ?_⟩) hHeld ?_ ?_
                                        rotate_left
                                        · rintro w' ⟨s0, s1, s2, s3⟩
                                          go_simp
                                          with_reducible rfl
                                        rotate_left
                                        · simp only [Act.put, List.setIfInBounds_toArray, List.set_cons_zero, List.set_cons_succ, i64_w, i32_w]
                                          rfl
                                        refine pure_ (i := 2) (N := some 90) (v := ?_) (a' := ?_) #[true, true, true, true, true, false, false, false, false, false, false] rfl rfl (any_of HT_.out (by kernel_rfl)) (fun _ _ _ h => h) (Or.inl ⟨by rfl, ?_⟩) ?_ ?_
                                        rotate_left
                                        · intro w'
                                          go_simp
                                          with_reducible rfl
                                        rotate_left
                                        · simp only [Act.put, List.setIfInBounds_toArray, List.set_cons_zero, List.set_cons_succ, i64_w, i32_w]
                                          rfl
                                        refine take_ (i := 5) (N := some 93) (v := ?_) (a' := ?_) #[true, true, true, true, true, true, false, false, false, false, false] rfl rfl (take_ofW HT_.out HW_.out (by kernel_rfl)) (fun _ _ _ h => h) (Or.inl ⟨by rfl, ?_⟩) hHeld ?_ ?_
                                        rotate_left
                                        · rintro w' ⟨s0, s1, s2, s3⟩
                                          go_simp
                                          with_reducible rfl
                                        rotate_left
                                        · simp only [Act.put, List.setIfInBounds_toArray, List.set_cons_zero, List.set_cons_succ, i64_w, i32_w]
                                          rfl
                                        refine pure_ (i := 6) (N := some 94) (v := ?_) (a' := ?_) #[true, true, true, true, true, true, true, false, false, false, false] rfl rfl (any_of HT_.out (by kernel_rfl)) (fun _ _ _ h => h) (Or.inl ⟨by rfl, ?_⟩) ?_ ?_
                                        rotate_left
                                        · intro w'
                                          go_simp
                                          with_reducible rfl
                                        rotate_left
                                        · simp only [Act.put, List.setIfInBounds_toArray, List.set_cons_zero, List.set_cons_succ, i64_w, i32_w]
                                          rfl
                                        refine pure_ (i := 7) (N := some 95) (v := ?_) (a' := ?_) #[true, true, true, true, true, true, true, true, false, false, false] rfl rfl (any_of HT_.out (by kernel_rfl)) (fun _ _ _ h => h) (Or.inl ⟨by rfl, ?_⟩) ?_ ?_
                                        rotate_left
                                        · intro w'
                                          go_simp
                                          with_reducible rfl
                                        rotate_left
                                        · simp only [Act.put, List.setIfInBounds_toArray, List.set_cons_zero, List.set_cons_succ, i64_w, i32_w]
                                          rfl
                                        refine pure_ (i := 8) (N := some 96) (v := ?_) (a' := ?_) #[true, true, true, true, true, true, true, true, true, false, false] rfl rfl (any_of HT_.out (by kernel_rfl)) (fun _ _ _ h => h) (Or.inl ⟨by rfl, ?_⟩) ?_ ?_
                                        rotate_left
                                        · intro w'
                                          go_simp
                                          with_reducible rfl
                                        rotate_left
                                        · simp only [Act.put, List.setIfInBounds_toArray, List.set_cons_zero, List.set_cons_succ, i64_w, i32_w]
                                          rfl
                                        refine pure_ (i := 9) (N := some 97) (v := ?_) (a' := ?_) #[true, true, true, true, true, true, true, true, true, true, false] rfl rfl (any_of HT_.out (by kernel_rfl)) (fun _ _ _ h => h) (Or.inl ⟨by rfl, ?_⟩) ?_ ?_
                                        rotate_left
                                        · intro w'
                                          go_simp
                                          with_reducible rfl
                                        rotate_left
                                        · simp only [Act.put, List.setIfInBounds_toArray, List.set_cons_zero, List.set_cons_succ, i64_w, i32_w]
                                          rfl
                                        refine last_ (i := 10) (N := none) #[true, true, true, true, true, true, true, true, true, true, true] rfl rfl (one_of HT_.out (by kernel_rfl)) (by decide) (fun K hK => ?_)
                                        have hs58 : w57.cell? ⟨gb144, 2, none⟩ = some (.int .i64 x145002_4) := (blk_cell BK144.out 2).trans rfl
                                        have hfs58 := blk_frozen BK144.out 2
                                        refine skip_ (w1 := ?_) (by rfl) rfl ?_ ?_
                                        rotate_left
                                        · go_simp
                                          rfl
                                        refine hK.out _ _ ?_
                                        clear hK K
                                        refine done_ (done_of HT_.out (by kernel_rfl)) ?_
                                        have hcz59_0 : w57.cell? ⟨gb144, 0, none⟩ = some (.int .i64 2) := (blk_cell BK144.out 0).trans rfl
                                        have hcz59_1 : w57.cell? ⟨gb144, 1, none⟩ = some (.string (⟨#[]⟩ : ByteArray)) := (blk_cell BK144.out 1).trans rfl
                                        have hcz59_2 : w57.cell? ⟨gb144, 2, none⟩ = some (.int .i64 x145002_4) := (blk_cell BK144.out 2).trans rfl
                                        have hcz59_3 : w57.cell? ⟨gb144, 3, none⟩ = some (.int .i64 x6_1) := (blk_cell BK144.out 3).trans rfl
                                        have hfz59_0 := blk_frozen BK144.out 0
                                        have hfz59_1 := blk_frozen BK144.out 1
                                        have hfz59_2 := blk_frozen BK144.out 2
                                        have hfz59_3 := blk_frozen BK144.out 3
                                        try go_wp2
                                        go_ret3
                                        exact ⟨_, by first | rfl | (simp [errW_none, errW_some] <;> rfl) | (simp [*, errW_none, errW_some] <;> rfl), by first | exact Kd.R_nil _ _ _ _ _ | exact Kd.N_nil _ _ _ _ _ | exact Kd.V_nil _ _ _ _ _ | exact Kd.Q_nil _ _ _ _ _ | exact Kd.S_nil _ _ _ _ _, by repeat (first | (with_reducible first | exact HB.out | apply below_alloc | apply pw_below_drewN | apply below_drew1 | refine below_set ?_ GE144.out) | exact HB.out)⟩
                                      · rw [if_neg c56] at H
                                        have c56b0 : decide (1099511627776 < (wrap64 ((wrap64 ((wrap64 (10 * x145002_4)) + (wrap64 (bt a0 x9_4)))) - 48))) = false := decide_eq_false c56
                                        clear c56
                                        have H' := Aside0.mk H
                                        clear H
                                        try go_wp2
                                        have OHO_5 := HO_5
                                        have OBK144 := BK144
                                        have OHB := HB
                                        have n0_ := Aside0.mk (Kd.R_drew HO_5.out)
                                        have n1_ := Aside0.mk (blk_drew BK144.out)
                                        have n2_ := Aside0.mk (below_drew1 HB.out)
                                        clear HO_5
                                        clear BK144
                                        clear HB
                                        have HO_5 := n0_
                                        have BK144 := n1_
                                        have HB := n2_
                                        clear n0_ n1_ n2_
                                        have p55 : 0 ≤ (x9_4 : Int) := of_decide_eq_true (by first | (with_reducible assumption) | assumption)
                                        have q55 : x9_4 < (a0.size : Int) := of_decide_eq_true (by first | (with_reducible assumption) | assumption)
                                        have hx55 := bt_at a0 x9_4
                                        replace p55 := eq_true p55
                                        replace q55 := eq_true q55
                                        refine start_ (n := 11) (S := fun w' => w'.cell? ⟨gb144, 0, none⟩ = some (.int .i64 2) ∧ w'.cell? ⟨gb144, 1, none⟩ = some (.string (⟨#[]⟩ : ByteArray)) ∧ w'.cell? ⟨gb144, 2, none⟩ = some (.int .i64 x145002_4) ∧ w'.cell? ⟨gb144, 3, none⟩ = some (.int .i64 x6_1)) (ds := [10]) #[false, false, false, false, false, false, false, false, false, false, false] (by kernel_rfl) rfl rfl ⟨(blk_cell BK144.out 0).trans rfl, (blk_cell BK144.out 1).trans rfl, (blk_cell BK144.out 2).trans rfl, (blk_cell BK144.out 3).trans rfl⟩ (fun hHeld => ?_); refine with_tabW stratagemref07_Scan.tab21 stratagemref07_Scan.bits21 (fun HT_ HW_ => ?_)
                                        generalize wr.drew = w60 at HO_5 BK144 HB hHeld ⊢
                                        refine pure_ (i := 0) (N := some 88) (v := ?_) (a' := ?_) #[true, false, false, false, false, false, false, false, false, false, false] rfl rfl (any_of HT_.out (by kernel_rfl)) (fun _ _ _ h => h) (Or.inl ⟨by rfl, ?_⟩) ?_ ?_
                                        rotate_left
                                        · intro w'
                                          go_simp
                                          with_reducible rfl
                                        rotate_left
                                        · simp only [Act.put, List.setIfInBounds_toArray, List.set_cons_zero, List.set_cons_succ, i64_w, i32_w]
                                          rfl
                                        refine pure_ (i := 3) (N := some 91) (v := ?_) (a' := ?_) #[true, false, false, true, false, false, false, false, false, false, false] rfl rfl (any_of HT_.out (by kernel_rfl)) (fun _ _ _ h => h) (Or.inl ⟨by rfl, ?_⟩) ?_ ?_
                                        rotate_left
                                        · intro w'
                                          go_simp
                                          with_reducible rfl
                                        rotate_left
                                        · simp only [Act.put, List.setIfInBounds_toArray, List.set_cons_zero, List.set_cons_succ, i64_w, i32_w]
                                          rfl
                                        refine pure_ (i := 4) (N := some 92) (v := ?_) (a' := ?_) #[true, false, false, true, true, false, false, false, false, false, false] rfl rfl (any_of HT_.out (by kernel_rfl)) (fun _ _ _ h => h) (Or.inl ⟨by rfl, ?_⟩) ?_ ?_
                                        rotate_left
                                        · intro w'
                                          go_simp
                                          with_reducible rfl
                                        rotate_left
                                        · simp only [Act.put, List.setIfInBounds_toArray, List.set_cons_zero, List.set_cons_succ, i64_w, i32_w]
                                          rfl
                                        refine take_ (i := 1) (N := some 89) (v := ?_) (a' := ?_) #[true, true, false, true, true, false, false, false, false, false, false] rfl rfl (take_ofW HT_.out HW_.out (by kernel_rfl)) (fun _ _ _ h => h) (Or.inl ⟨by rfl, ?_⟩) hHeld ?_ ?_
                                        rotate_left
                                        · rintro w' ⟨s0, s1, s2, s3⟩
                                          go_simp
                                          with_reducible rfl
                                        rotate_left
                                        · simp only [Act.put, List.setIfInBounds_toArray, List.set_cons_zero, List.set_cons_succ, i64_w, i32_w]
                                          rfl
                                        refine pure_ (i := 2) (N := some 90) (v := ?_) (a' := ?_) #[true, true, true, true, true, false, false, false, false, false, false] rfl rfl (any_of HT_.out (by kernel_rfl)) (fun _ _ _ h => h) (Or.inl ⟨by rfl, ?_⟩) ?_ ?_
                                        rotate_left
                                        · intro w'
                                          go_simp
                                          with_reducible rfl
                                        rotate_left
                                        · simp only [Act.put, List.setIfInBounds_toArray, List.set_cons_zero, List.set_cons_succ, i64_w, i32_w]
                                          rfl
                                        refine take_ (i := 5) (N := some 93) (v := ?_) (a' := ?_) #[true, true, true, true, true, true, false, false, false, false, false] rfl rfl (take_ofW HT_.out HW_.out (by kernel_rfl)) (fun _ _ _ h => h) (Or.inl ⟨by rfl, ?_⟩) hHeld ?_ ?_
                                        rotate_left
                                        · rintro w' ⟨s0, s1, s2, s3⟩
                                          go_simp
                                          with_reducible rfl
                                        rotate_left
                                        · simp only [Act.put, List.setIfInBounds_toArray, List.set_cons_zero, List.set_cons_succ, i64_w, i32_w]
                                          rfl
                                        refine pure_ (i := 6) (N := some 94) (v := ?_) (a' := ?_) #[true, true, true, true, true, true, true, false, false, false, false] rfl rfl (any_of HT_.out (by kernel_rfl)) (fun _ _ _ h => h) (Or.inl ⟨by rfl, ?_⟩) ?_ ?_
                                        rotate_left
                                        · intro w'
                                          go_simp
                                          with_reducible rfl
                                        rotate_left
                                        · simp only [Act.put, List.setIfInBounds_toArray, List.set_cons_zero, List.set_cons_succ, i64_w, i32_w]
                                          rfl
                                        refine pure_ (i := 7) (N := some 95) (v := ?_) (a' := ?_) #[true, true, true, true, true, true, true, true, false, false, false] rfl rfl (any_of HT_.out (by kernel_rfl)) (fun _ _ _ h => h) (Or.inl ⟨by rfl, ?_⟩) ?_ ?_
                                        rotate_left
                                        · intro w'
                                          go_simp
                                          with_reducible rfl
                                        rotate_left
                                        · simp only [Act.put, List.setIfInBounds_toArray, List.set_cons_zero, List.set_cons_succ, i64_w, i32_w]
                                          rfl
                                        refine pure_ (i := 8) (N := some 96) (v := ?_) (a' := ?_) #[true, true, true, true, true, true, true, true, true, false, false] rfl rfl (any_of HT_.out (by kernel_rfl)) (fun _ _ _ h => h) (Or.inl ⟨by rfl, ?_⟩) ?_ ?_
                                        rotate_left
                                        · intro w'
                                          go_simp
                                          with_reducible rfl
                                        rotate_left
                                        · simp only [Act.put, List.setIfInBounds_toArray, List.set_cons_zero, List.set_cons_succ, i64_w, i32_w]
                                          rfl
                                        refine pure_ (i := 9) (N := some 97) (v := ?_) (a' := ?_) #[true, true, true, true, true, true, true, true, true, true, false] rfl rfl (any_of HT_.out (by kernel_rfl)) (fun _ _ _ h => h) (Or.inl ⟨by rfl, ?_⟩) ?_ ?_
                                        rotate_left
                                        · intro w'
                                          go_simp
                                          with_reducible rfl
                                        rotate_left
                                        · simp only [Act.put, List.setIfInBounds_toArray, List.set_cons_zero, List.set_cons_succ, i64_w, i32_w]
                                          rfl
                                        refine last_ (i := 10) (N := none) #[true, true, true, true, true, true, true, true, true, true, true] rfl rfl (one_of HT_.out (by kernel_rfl)) (by decide) (fun K hK => ?_)
                                        have hs61 : w60.cell? ⟨gb144, 2, none⟩ = some (.int .i64 x145002_4) := (blk_cell BK144.out 2).trans rfl
                                        have hfs61 := blk_frozen BK144.out 2
                                        refine skip_ (w1 := ?_) (by rfl) rfl ?_ ?_
                                        rotate_left
                                        · go_simp
                                          rfl
                                        refine hK.out _ _ ?_
                                        clear hK K
                                        refine done_ (done_of HT_.out (by kernel_rfl)) ?_
                                        have hcz62_0 : w60.cell? ⟨gb144, 0, none⟩ = some (.int .i64 2) := (blk_cell BK144.out 0).trans rfl
                                        have hcz62_1 : w60.cell? ⟨gb144, 1, none⟩ = some (.string (⟨#[]⟩ : ByteArray)) := (blk_cell BK144.out 1).trans rfl
                                        have hcz62_2 : w60.cell? ⟨gb144, 2, none⟩ = some (.int .i64 x145002_4) := (blk_cell BK144.out 2).trans rfl
                                        have hcz62_3 : w60.cell? ⟨gb144, 3, none⟩ = some (.int .i64 x6_1) := (blk_cell BK144.out 3).trans rfl
                                        have hfz62_0 := blk_frozen BK144.out 0
                                        have hfz62_1 := blk_frozen BK144.out 1
                                        have hfz62_2 := blk_frozen BK144.out 2
                                        have hfz62_3 := blk_frozen BK144.out 3
                                        try go_wp2
                                        go_roundg k4
                                        case measure => have := HK1.out; have := HJ5.out; have := HJ44.out; have := HK4.out; omega
                                        case rel => exact ⟨(wrap64 (x9_4 + 1)), (wrap64 ((wrap64 ((wrap64 (10 * x145002_4)) + (wrap64 (bt a0 x9_4)))) - 48)), (by first | rfl | (simp; done) | (simp [*]; done)), H', ⟨by have := HK1.out; have := HJ5.out; have := HJ44.out; have := HK4.out; omega⟩, ⟨by (with_reducible repeat (first | apply Kd.R_alloc | apply Kd.R_drewN | apply Kd.R_drew)); exact Kd.R_mono (Kd.R_far (p := ⟨gb144, 2, none⟩) (Kd.R_mono HO_5.out (fun k_ hk => (⟨hk, hk⟩ : _ ∧ k_ ≠ gb144))) (fun _ hk => hk.2) (.int .i64 (wrap64 ((wrap64 ((wrap64 (10 * x145002_4)) + (wrap64 (bt a0 x9_4)))) - 48)))) (fun _ hk => hk.1)⟩, ⟨by (with_reducible repeat (first | refine blk_drewN ?_ _ | refine blk_drew ?_ | refine blk_alloc ?_ _)); refine blk_put (cs := #[.int .i64 2, .string (⟨#[]⟩ : ByteArray), .int .i64 x145002_4, .int .i64 x6_1]) ?_ 2 _ rfl; (with_reducible repeat (first | refine blk_drewN ?_ _ | refine blk_drew ?_ | refine blk_alloc ?_ _)); exact BK144.out⟩, ⟨by repeat (first | (with_reducible first | exact HB.out | apply below_alloc | apply pw_below_drewN | apply below_drew1 | refine below_set ?_ GE144.out) | exact HB.out)⟩⟩
                                    · rw [if_neg c54] at H
                                      exact absurd H (by simp)
                                  · rw [if_neg c53] at H
                                    exact absurd H (by simp)
                                · rw [if_neg c52] at H
                                  have c52b0 : decide (x9_4 < x6_44) = false := decide_eq_false c52
                                  clear c52
                                  by_cases c63 : 0 ≤ x6_1
                                  · rw [if_pos c63] at H
                                    have c63b0 := eq_true c63
                                    have c63b1 : decide (0 ≤ x6_1) = true := decide_eq_true c63
                                    clear c63
                                    by_cases c64 : x6_1 ≤ x6_44
                                    · rw [if_pos c64] at H
                                      have c64b0 := eq_true c64
                                      have c64b1 : decide (x6_1 ≤ x6_44) = true := decide_eq_true c64
                                      clear c64
                                      by_cases c65 : x6_44 ≤ (a0.size : Int)
                                      · rw [if_pos c65] at H
                                        have c65b0 := eq_true c65
                                        have c65b1 : decide (x6_44 ≤ (a0.size : Int)) = true := decide_eq_true c65
                                        clear c65
                                        by_cases c66 : x5_1.length < 3518437208883
                                        · rw [if_pos c66] at H
                                          have LMc66 := Aside0.mk c66
                                          clear c66
                                          obtain ⟨y156, hy156⟩ : ∃ y_ : List (S68), y_ = (x5_1 ++ [(⟨2, a0.extract (x6_1 : Int).toNat (x6_44 : Int).toNat, x145002_4, x6_1⟩ : S68)]) := ⟨_, rfl⟩
                                          replace H : (stratagemref07_Scan.l0 k4 a0 y156 x6_44) = some (r1, r2, r3) := by first | (rw [hy156]; with_reducible exact H) | (have H2_ := (Option.bind_some _ _).symm.trans H; rw [hy156]; with_reducible exact H2_) | (have H2_ := (Option.bind_some _ _).symm.trans H; with_reducible exact H2_) | with_reducible exact H | (rw [hy156]; exact H) | exact H
                                          have Ny156 := Aside0.mk hy156
                                          clear hy156
                                          have H' := Aside0.mk H
                                          clear H
                                          have hcz67_0 : wr.cell? ⟨gb144, 0, none⟩ = some (.int .i64 2) := (blk_cell BK144.out 0).trans rfl
                                          have hcz67_1 : wr.cell? ⟨gb144, 1, none⟩ = some (.string (⟨#[]⟩ : ByteArray)) := (blk_cell BK144.out 1).trans rfl
                                          have hcz67_2 : wr.cell? ⟨gb144, 2, none⟩ = some (.int .i64 x145002_4) := (blk_cell BK144.out 2).trans rfl
                                          have hcz67_3 : wr.cell? ⟨gb144, 3, none⟩ = some (.int .i64 x6_1) := (blk_cell BK144.out 3).trans rfl
                                          have hfz67_0 := blk_frozen BK144.out 0
                                          have hfz67_1 := blk_frozen BK144.out 1
                                          have hfz67_2 := blk_frozen BK144.out 2
                                          have hfz67_3 := blk_frozen BK144.out 3
                                          go_wp2_with (first | ((with_reducible refine gate_builtin (b := .append) (xs := #[.tmp 130, .tmp 132]) rfl ?_); at_builtin; refine Kd.R_append k68 (w0 := w) w.heap.size rfl (.tmp 130) (.tmp 132) 50 68 (.agg #[(.int .i64 0), (.string ⟨#[]⟩), (.int .i64 0), (.int .i64 0)]) 40 rfl Try.underlying50 info68 rfl (by decide) (by omega) u5 x5_1 (⟨2, a0.extract (x6_1 : Int).toNat (x6_44 : Int).toNat, x145002_4, x6_1⟩ : S68) [.int .i64 2, .string (a0.extract (x6_1 : Int).toNat (x6_44 : Int).toNat), .int .i64 x145002_4, .int .i64 x6_1] (fun k_ => k_ ≠ gb144) (fun _ => False) rfl (by first | (go_simp; done) | (go_simp; rfl)) ?aP (fun _ hk => hk.elim) ?aF ?aO ?aB ?aS ?aL ?_; (case aP => exact k68_mkM _ _ _ (⟨2, a0.extract (x6_1 : Int).toNat (x6_44 : Int).toNat, x145002_4, x6_1⟩ : S68)); (case aB => exact (by repeat (first | (with_reducible first | exact HB.out | apply below_alloc | apply pw_below_drewN | apply below_drew1 | refine below_set ?_ GE144.out) | exact HB.out))); (case aF => exact (fun k_ hk => Kd.freshB (g := gb144) (o := .cells #[.int .i64 2, .string (a0.extract (x6_1 : Int).toNat (x6_44 : Int).toNat), .int .i64 x145002_4, .int .i64 x6_1] 68 (0, 0)) (by (with_reducible repeat (first | refine blk_drewN ?_ _ | refine blk_drew ?_ | refine blk_alloc ?_ _)); refine blk_put (cs := #[.int .i64 2, .string (⟨#[]⟩ : ByteArray), .int .i64 x145002_4, .int .i64 x6_1]) ?_ 1 _ rfl; (with_reducible repeat (first | refine blk_drewN ?_ _ | refine blk_drew ?_ | refine blk_alloc ?_ _)); exact BK144.out) k_ hk)); (case aO => exact (by (with_reducible repeat (first | apply Kd.R_alloc | apply Kd.R_drewN | apply Kd.R_drew)); exact Kd.R_mono (Kd.R_far (p := ⟨gb144, 1, none⟩) (Kd.R_mono HO_5.out (fun k_ hk => (⟨hk, hk⟩ : _ ∧ k_ ≠ gb144))) (fun _ hk => hk.2) (.string (a0.extract (x6_1 : Int).toNat (x6_44 : Int).toNat))) (fun _ hk => hk.1))); (case aS => exact (below_size (by repeat (first | (with_reducible first | exact HB.out | apply below_alloc | apply pw_below_drewN | apply below_drew1 | refine below_set ?_ GE144.out) | exact HB.out)))); (case aL => have := LMc66.out; omega); intro v157 w68 ho hb hg hat; rw [← Ny156.out] at ho; have n0_ := Aside0.mk (blk_grown (g := gb144) (o := .cells #[.int .i64 2, .string (a0.extract (x6_1 : Int).toNat (x6_44 : Int).toNat), .int .i64 x145002_4, .int .i64 x6_1] 68 (0, 0)) (by (with_reducible repeat (first | refine blk_drewN ?_ _ | refine blk_drew ?_ | refine blk_alloc ?_ _)); refine blk_put (cs := #[.int .i64 2, .string (⟨#[]⟩ : ByteArray), .int .i64 x145002_4, .int .i64 x6_1]) ?_ 1 _ rfl; (with_reducible repeat (first | refine blk_drewN ?_ _ | refine blk_drew ?_ | refine blk_alloc ?_ _)); exact BK144.out) hg (Kd.R_away HO_5.out (fun _ hk => hk))); have n1_ := Aside0.mk (hb); have n2_ := Aside0.mk (ho); clear BK144; clear HB; clear HO_5; have BK144 := n0_; have HB := n1_; have HO158 := n2_; clear n0_ n1_ n2_; clear ho hb hg hat))
                                          go_roundg k4
                                          case measure => have := HK1.out; have := HJ5.out; have := HJ44.out; have := HK4.out; omega
                                          case rel => exact ⟨(y156), (x6_44), (by first | rfl | (simp; done) | (simp [*]; done)), H', ⟨by have := HK1.out; have := HJ5.out; have := HJ44.out; have := HK4.out; omega⟩, ⟨by (with_reducible repeat (first | apply Kd.R_alloc | apply Kd.R_drewN | apply Kd.R_drew)); exact Kd.R_mono HO158.out (fun _ hk => trivial)⟩, ⟨by repeat (first | (with_reducible first | exact HB.out | apply below_alloc | apply pw_below_drewN | apply below_drew1 | refine below_set ?_ GE144.out) | exact HB.out)⟩⟩
                                        · rw [if_neg c66] at H
                                          exact absurd H (by simp)
                                      · rw [if_neg c65] at H
                                        exact absurd H (by simp)
                                    · rw [if_neg c64] at H
                                      exact absurd H (by simp)
                                  · rw [if_neg c63] at H
                                    exact absurd H (by simp)
                      · replace c44 := Bool.eq_false_iff.mpr c44
                        subst c44
                        have H1 : (if (wrap64 (x6_1 + 1)) < (a0.size : Int) then (if 0 ≤ (wrap64 (x6_1 + 1)) then ((stratagemref07_pair.f (bt a0 x6_1) (bt a0 (wrap64 (x6_1 + 1)))).bind fun t159 => (stratagemref07_Scan.j6 kj5 a0 x5_1 (wrap64 (x6_1 + 1)) x6_1 t159 3 (⟨#[]⟩ : ByteArray) 0 x6_1)) else (none)) else (stratagemref07_Scan.j6 kj5 a0 x5_1 (wrap64 (x6_1 + 1)) x6_1 false 3 (⟨#[]⟩ : ByteArray) 0 x6_1)) = some (r1, r2, r3) := by rw [if_neg (show ¬ (false = true) by decide)] at H; exact H
                        clear H
                        have H := H1
                        clear H1
                        have HC69 := Aside0.mk H
                        clear H
                        have p16 : 0 ≤ (x6_1 : Int) := of_decide_eq_true (by first | (with_reducible assumption) | assumption)
                        have q16 : x6_1 < (a0.size : Int) := of_decide_eq_true (by first | (with_reducible assumption) | assumption)
                        have hx16 := bt_at a0 x6_1
                        replace p16 := eq_true p16
                        replace q16 := eq_true q16
                        go_upto_region 24 with (first | ((with_reducible refine gate_callee (f := 40) rfl ?_); refine goesL_ (some 38) rfl rfl Try.func40 (by kernel_rfl) rfl #[.int .u8 (bt a0 x6_1)] rfl (by (try simp only [List.map_toArray, List.map_cons, List.map_nil]); first | done | rfl | (simp only [List.length_drop, List.length_take]; rfl)) ?_; (with_reducible refine (stratagemref07_word.calls (bt a0 x6_1) false _ A17.out).mono ?_); rintro e w' ⟨rfl, ⟨nd, rfl⟩⟩; refine ⟨_, rfl, ?_⟩; have p42 : 0 ≤ (x6_1 : Int) := of_decide_eq_true (by first | (with_reducible assumption) | assumption); have q42 : x6_1 < (a0.size : Int) := of_decide_eq_true (by first | (with_reducible assumption) | assumption); have hx42 := bt_at a0 x6_1; replace p42 := eq_true p42; replace q42 := eq_true q42) | ((with_reducible refine gate_callee (f := 41) rfl ?_); refine goesL_ (some 68) rfl rfl Try.func41 (by kernel_rfl) rfl #[.int .u8 (bt a0 x6_1)] rfl (by (try simp only [List.map_toArray, List.map_cons, List.map_nil]); first | done | rfl | (simp only [List.length_drop, List.length_take]; rfl)) ?_; (with_reducible refine (stratagemref07_digit.calls (bt a0 x6_1) false _ A43.out).mono ?_); rintro e w' ⟨rfl, ⟨nd, rfl⟩⟩; refine ⟨_, rfl, ?_⟩))
                        (try simp only [Act.put, List.setIfInBounds_toArray, List.set_cons_zero, List.set_cons_succ])
                        go_cut [102] (fun v102 wc => ∃ (kq : Nat) (x102_68 : Bool), v102 = .bool x102_68 ∧ Aside0 (stratagemref07_Scan.j6 kq a0 x5_1 (wrap64 (x6_1 + 1)) x6_1 x102_68 3 (⟨#[]⟩ : ByteArray) 0 x6_1 = some (r1, r2, r3)) ∧ Aside0 (kq ≤ kj5) ∧ Aside0 (Kd.R k68 68 wc w.heap.size (fun k_ => k_ ≠ gb144) u5 x5_1) ∧ Aside0 (wc.heap[gb144]? = some (.cells #[.int .i64 3, .string (⟨#[]⟩ : ByteArray), .int .i64 0, .int .i64 x6_1] 68 (0, 0))) ∧ Aside0 (Below w.heap.size w wc))
                        case first =>
                          have H := HC69.out
                          clear HC69
                          by_cases c70 : (wrap64 (x6_1 + 1)) < (a0.size : Int)
                          · rw [if_pos c70] at H
                            have c70b0 : decide ((wrap64 (x6_1 + 1)) < (a0.size : Int)) = true := decide_eq_true c70
                            clear c70
                            (first | rw [c70b0] | (simp only [i64_w, i32_w]; rw [c70b0]) | skip)
                            obtain ⟨ji72, hji72⟩ : ∃ j_ : Int, (wrap64 (x6_1 + 1)) = j_ := ⟨_, rfl⟩
                            replace H : (if 0 ≤ (ji72) then ((stratagemref07_pair.f (bt a0 x6_1) (bt a0 (ji72))).bind fun t159 => (stratagemref07_Scan.j6 kj5 a0 x5_1 (ji72) x6_1 t159 3 (⟨#[]⟩ : ByteArray) 0 x6_1)) else (none)) = some (r1, r2, r3) := by first | (rw [hji72] at H; exact H) | (simp only [hji72] at H ⊢; exact H)
                            (try rw [hji72] at c70b0)
                            have hji72w : (IntKind.i64.wrap (x6_1 + 1)) = ji72 := (i64_w _).trans hji72
                            by_cases c73 : 0 ≤ (ji72)
                            · rw [if_pos c73] at H
                              have c73b0 : decide (0 ≤ (ji72)) = true := decide_eq_true c73
                              clear c73
                              replace H := Option.bind_eq_some_iff.mp H
                              obtain ⟨t159, A750, H⟩ := H
                              replace H : (stratagemref07_Scan.j6 kj5 a0 x5_1 (ji72) x6_1 t159 3 (⟨#[]⟩ : ByteArray) 0 x6_1) = some (r1, r2, r3) := H
                              have A75 := Aside0.mk A750
                              clear A750
                              have H' := Aside0.mk H
                              clear H
                              try go_wp2
                              have OHO_5 := HO_5
                              have OBK144 := BK144
                              have OHB := HB
                              have n0_ := Aside0.mk (Kd.R_drew HO_5.out)
                              have n1_ := Aside0.mk (blk_drew BK144.out)
                              have n2_ := Aside0.mk (below_drew1 HB.out)
                              clear HO_5
                              clear BK144
                              clear HB
                              have HO_5 := n0_
                              have BK144 := n1_
                              have HB := n2_
                              clear n0_ n1_ n2_
                              have p71 : 0 ≤ (x6_1 : Int) := of_decide_eq_true (by first | (with_reducible assumption) | assumption)
                              have q71 : x6_1 < (a0.size : Int) := of_decide_eq_true (by first | (with_reducible assumption) | assumption)
                              have hx71 := bt_at a0 x6_1
                              replace p71 := eq_true p71
                              replace q71 := eq_true q71
                              have p74 : 0 ≤ ((ji72) : Int) := of_decide_eq_true (by first | (with_reducible assumption) | assumption)
                              have q74 : (ji72) < (a0.size : Int) := of_decide_eq_true (by first | (with_reducible assumption) | assumption)
                              have hx74 := bt_at a0 (ji72)
                              replace p74 := eq_true p74
                              replace q74 := eq_true q74
                              refine start_ (n := 14) (S := fun w' => True) (ds := []) #[false, false, false, false, false, false, false, false, false, false, false, false, false, false] (by kernel_rfl) rfl rfl trivial (fun hHeld => ?_); refine with_tabW stratagemref07_Scan.tab24 stratagemref07_Scan.bits24 (fun HT_ HW_ => ?_)
                              generalize wc.drew = w76 at HO_5 BK144 HB hHeld ⊢
                              refine pure_ (i := 0) (N := some 103) (v := ?_) (a' := ?_) #[true, false, false, false, false, false, false, false, false, false, false, false, false, false] rfl rfl (any_of HT_.out (by kernel_rfl)) (fun _ _ _ h => h) (Or.inl ⟨by rfl, ?_⟩) ?_ ?_
                              rotate_left
                              · intro w'
                                go_simp
                                with_reducible rfl
                              rotate_left
                              · simp only [Act.put, List.setIfInBounds_toArray, List.set_cons_zero, List.set_cons_succ, i64_w, i32_w]
                                rfl
                              refine pure_ (i := 1) (N := some 104) (v := ?_) (a' := ?_) #[true, true, false, false, false, false, false, false, false, false, false, false, false, false] rfl rfl (any_of HT_.out (by kernel_rfl)) (fun _ _ _ h => h) (Or.inl ⟨by rfl, ?_⟩) ?_ ?_
                              rotate_left
                              · intro w'
                                go_simp
                                with_reducible rfl
                              rotate_left
                              · simp only [Act.put, List.setIfInBounds_toArray, List.set_cons_zero, List.set_cons_succ, i64_w, i32_w]
                                rfl
                              refine pure_ (i := 2) (N := some 105) (v := ?_) (a' := ?_) #[true, true, true, false, false, false, false, false, false, false, false, false, false, false] rfl rfl (any_of HT_.out (by kernel_rfl)) (fun _ _ _ h => h) (Or.inl ⟨by rfl, ?_⟩) ?_ ?_
                              rotate_left
                              · intro w'
                                go_simp
                                with_reducible rfl
                              rotate_left
                              · simp only [Act.put, List.setIfInBounds_toArray, List.set_cons_zero, List.set_cons_succ, i64_w, i32_w]
                                rfl
                              refine pure_ (i := 3) (N := some 106) (v := ?_) (a' := ?_) #[true, true, true, true, false, false, false, false, false, false, false, false, false, false] rfl rfl (any_of HT_.out (by kernel_rfl)) (fun _ _ _ h => h) (Or.inl ⟨by rfl, ?_⟩) ?_ ?_
                              rotate_left
                              · intro w'
                                go_simp
                                with_reducible rfl
                              rotate_left
                              · simp only [Act.put, List.setIfInBounds_toArray, List.set_cons_zero, List.set_cons_succ, i64_w, i32_w]
                                rfl
                              refine pure_ (i := 4) (N := some 107) (v := ?_) (a' := ?_) #[true, true, true, true, true, false, false, false, false, false, false, false, false, false] rfl rfl (any_of HT_.out (by kernel_rfl)) (fun _ _ _ h => h) (Or.inl ⟨by rfl, ?_⟩) ?_ ?_
                              rotate_left
                              · intro w'
                                go_simp
                                with_reducible rfl
                              rotate_left
                              · simp only [Act.put, List.setIfInBounds_toArray, List.set_cons_zero, List.set_cons_succ, i64_w, i32_w]
                                rfl
                              refine pure_ (i := 5) (N := some 108) (v := ?_) (a' := ?_) #[true, true, true, true, true, true, false, false, false, false, false, false, false, false] rfl rfl (any_of HT_.out (by kernel_rfl)) (fun _ _ _ h => h) (Or.inl ⟨by rfl, ?_⟩) ?_ ?_
                              rotate_left
                              · intro w'
                                go_simp
                                with_reducible rfl
                              rotate_left
                              · simp only [Act.put, List.setIfInBounds_toArray, List.set_cons_zero, List.set_cons_succ, i64_w, i32_w]
                                rfl
                              refine pure_ (i := 6) (N := some 109) (v := ?_) (a' := ?_) #[true, true, true, true, true, true, true, false, false, false, false, false, false, false] rfl rfl (any_of HT_.out (by kernel_rfl)) (fun _ _ _ h => h) (Or.inl ⟨by rfl, ?_⟩) ?_ ?_
                              rotate_left
                              · intro w'
                                go_simp
                                with_reducible rfl
                              rotate_left
                              · simp only [Act.put, List.setIfInBounds_toArray, List.set_cons_zero, List.set_cons_succ, i64_w, i32_w]
                                rfl
                              refine pure_ (i := 8) (N := some 111) (v := ?_) (a' := ?_) #[true, true, true, true, true, true, true, false, true, false, false, false, false, false] rfl rfl (any_of HT_.out (by kernel_rfl)) (fun _ _ _ h => h) (Or.inl ⟨by rfl, ?_⟩) ?_ ?_
                              rotate_left
                              · intro w'
                                go_simp
                                with_reducible rfl
                              rotate_left
                              · simp only [Act.put, List.setIfInBounds_toArray, List.set_cons_zero, List.set_cons_succ, i64_w, i32_w]
                                rfl
                              refine pure_ (i := 9) (N := some 112) (v := ?_) (a' := ?_) #[true, true, true, true, true, true, true, false, true, true, false, false, false, false] rfl rfl (any_of HT_.out (by kernel_rfl)) (fun _ _ _ h => h) (Or.inl ⟨by rfl, ?_⟩) ?_ ?_
                              rotate_left
                              · intro w'
                                go_simp
                                with_reducible rfl
                              rotate_left
                              · simp only [Act.put, List.setIfInBounds_toArray, List.set_cons_zero, List.set_cons_succ, i64_w, i32_w]
                                rfl
                              refine take_ (i := 7) (N := some 110) (v := ?_) (a' := ?_) #[true, true, true, true, true, true, true, true, true, true, false, false, false, false] rfl rfl (take_ofW HT_.out HW_.out (by kernel_rfl)) (fun _ _ _ h => h) (Or.inl ⟨by rfl, ?_⟩) hHeld ?_ ?_
                              rotate_left
                              · intro w' _
                                go_simp
                                with_reducible rfl
                              rotate_left
                              · simp only [Act.put, List.setIfInBounds_toArray, List.set_cons_zero, List.set_cons_succ, i64_w, i32_w]
                                rfl
                              refine take_ (i := 10) (N := some 113) (v := ?_) (a' := ?_) #[true, true, true, true, true, true, true, true, true, true, true, false, false, false] rfl rfl (take_ofW HT_.out HW_.out (by kernel_rfl)) (fun _ _ _ h => h) (Or.inl ⟨by rfl, ?_⟩) hHeld ?_ ?_
                              rotate_left
                              · intro w' _
                                go_simp
                                with_reducible rfl
                              rotate_left
                              · simp only [Act.put, List.setIfInBounds_toArray, List.set_cons_zero, List.set_cons_succ, i64_w, i32_w]
                                rfl
                              refine one_ (i := 11) (N := some 114) #[true, true, true, true, true, true, true, true, true, true, true, true, false, false] rfl rfl (one_of HT_.out (by kernel_rfl)) (by decide) (fun K hK => ?_)
                              refine goes_ Try.func42 (by kernel_rfl) rfl #[.int .u8 (bt a0 x6_1), .int .u8 (bt a0 (ji72))] (by rfl) rfl rfl (by (try simp only [List.map_toArray, List.map_cons, List.map_nil]); first | done | (simp only [hji72]; rfl) | rfl | (simp only [List.length_drop, List.length_take]; rfl)) ?_
                              with_reducible refine (stratagemref07_pair.calls (bt a0 x6_1) (bt a0 (ji72)) t159 _ A75.out).mono ?_
                              rintro e w' ⟨rfl, ⟨nd, rfl⟩⟩
                              refine ⟨_, rfl, ?_⟩
                              refine hK.out _ _ trivial (fun hHeld => ?_)
                              clear hK K
                              refine norm_ (a' := ?_) ?_ ?_
                              rotate_left
                              · show Act.put _ (some 114) _ = _
                                simp only [Act.put, List.setIfInBounds_toArray, List.set_cons_zero, List.set_cons_succ, i64_w, i32_w]
                                rfl
                              refine pure_ (i := 12) (N := some 115) (v := ?_) (a' := ?_) #[true, true, true, true, true, true, true, true, true, true, true, true, true, false] rfl rfl (any_of HT_.out (by kernel_rfl)) (fun _ _ _ h => h) (Or.inl ⟨by rfl, ?_⟩) ?_ ?_
                              rotate_left
                              · intro w'
                                go_simp
                                with_reducible rfl
                              rotate_left
                              · simp only [Act.put, List.setIfInBounds_toArray, List.set_cons_zero, List.set_cons_succ, i64_w, i32_w]
                                rfl
                              refine pure_ (i := 13) (N := some 102) (v := ?_) (a' := ?_) #[true, true, true, true, true, true, true, true, true, true, true, true, true, true] rfl rfl (any_of HT_.out (by kernel_rfl)) (fun _ _ _ h => h) (Or.inl ⟨by rfl, ?_⟩) ?_ ?_
                              rotate_left
                              · intro w'
                                go_simp
                                with_reducible rfl
                              rotate_left
                              · simp only [Act.put, List.setIfInBounds_toArray, List.set_cons_zero, List.set_cons_succ, i64_w, i32_w]
                                rfl
                              refine done_ (done_of HT_.out (by kernel_rfl)) ?_
                              try go_wp2
                              go_meet
                              case rel => exact ⟨_, (t159), (by first | rfl | (simp; done) | (simp [*]; done)), (by first | exact H' | (rw [hji72]; exact H') | (simp only [hji72]; exact H') | (subst hji72; exact H')), ⟨by have := HK1.out; have := HJ5.out; first | omega | exact Nat.le_refl _⟩, ⟨by (with_reducible repeat (first | apply Kd.R_alloc | apply Kd.R_drewN | apply Kd.R_drew)); first | exact HO_5.out | exact OHO_5.out⟩, ⟨by (with_reducible repeat (first | refine blk_drewN ?_ _ | refine blk_drew ?_ | refine blk_alloc ?_ _)); first | exact BK144.out | exact OBK144.out⟩, ⟨by repeat (first | (with_reducible first | exact HB.out | exact OHB.out | apply below_alloc | apply pw_below_drewN | apply below_drew1 | refine below_set ?_ GE144.out) | exact HB.out | exact OHB.out)⟩⟩
                            · rw [if_neg c73] at H
                              exact absurd H (by simp)
                          · rw [if_neg c70] at H
                            have c70b0 : decide ((wrap64 (x6_1 + 1)) < (a0.size : Int)) = false := decide_eq_false c70
                            clear c70
                            (first | rw [c70b0] | (simp only [i64_w, i32_w]; rw [c70b0]) | skip)
                            have H' := Aside0.mk H
                            clear H
                            try go_wp2
                            have OHO_5 := HO_5
                            have OBK144 := BK144
                            have OHB := HB
                            have n0_ := Aside0.mk (Kd.R_drew HO_5.out)
                            have n1_ := Aside0.mk (blk_drew BK144.out)
                            have n2_ := Aside0.mk (below_drew1 HB.out)
                            clear HO_5
                            clear BK144
                            clear HB
                            have HO_5 := n0_
                            have BK144 := n1_
                            have HB := n2_
                            clear n0_ n1_ n2_
                            refine start_ (n := 14) (S := fun w' => True) (ds := []) #[false, false, false, false, false, false, false, false, false, false, false, false, false, false] (by kernel_rfl) rfl rfl trivial (fun hHeld => ?_); refine with_tabW stratagemref07_Scan.tab24 stratagemref07_Scan.bits24 (fun HT_ HW_ => ?_)
                            generalize wc.drew = w77 at HO_5 BK144 HB hHeld ⊢
                            refine pure_ (i := 0) (N := some 103) (v := ?_) (a' := ?_) #[true, false, false, false, false, false, false, false, false, false, false, false, false, false] rfl rfl (any_of HT_.out (by kernel_rfl)) (fun _ _ _ h => h) (Or.inl ⟨by rfl, ?_⟩) ?_ ?_
                            rotate_left
                            · intro w'
                              go_simp
                              with_reducible rfl
                            rotate_left
                            · simp only [Act.put, List.setIfInBounds_toArray, List.set_cons_zero, List.set_cons_succ, i64_w, i32_w]
                              rfl
                            refine pure_ (i := 1) (N := some 104) (v := ?_) (a' := ?_) #[true, true, false, false, false, false, false, false, false, false, false, false, false, false] rfl rfl (any_of HT_.out (by kernel_rfl)) (fun _ _ _ h => h) (Or.inl ⟨by rfl, ?_⟩) ?_ ?_
                            rotate_left
                            · intro w'
                              go_simp
                              with_reducible rfl
                            rotate_left
                            · simp only [Act.put, List.setIfInBounds_toArray, List.set_cons_zero, List.set_cons_succ, i64_w, i32_w]
                              rfl
                            refine pure_ (i := 2) (N := some 105) (v := ?_) (a' := ?_) #[true, true, true, false, false, false, false, false, false, false, false, false, false, false] rfl rfl (any_of HT_.out (by kernel_rfl)) (fun _ _ _ h => h) (Or.inl ⟨by rfl, ?_⟩) ?_ ?_
                            rotate_left
                            · intro w'
                              go_simp
                              with_reducible rfl
                            rotate_left
                            · simp only [Act.put, List.setIfInBounds_toArray, List.set_cons_zero, List.set_cons_succ, i64_w, i32_w]
                              rfl
                            refine pure_ (i := 3) (N := some 106) (v := ?_) (a' := ?_) #[true, true, true, true, false, false, false, false, false, false, false, false, false, false] rfl rfl (any_of HT_.out (by kernel_rfl)) (fun _ _ _ h => h) (Or.inl ⟨by rfl, ?_⟩) ?_ ?_
                            rotate_left
                            · intro w'
                              go_simp
                              with_reducible rfl
                            rotate_left
                            · simp only [Act.put, List.setIfInBounds_toArray, List.set_cons_zero, List.set_cons_succ, i64_w, i32_w]
                              rfl
                            refine pure_ (i := 4) (N := some 107) (v := ?_) (a' := ?_) #[true, true, true, true, true, false, false, false, false, false, false, false, false, false] rfl rfl (any_of HT_.out (by kernel_rfl)) (fun _ _ _ h => h) (Or.inl ⟨by rfl, ?_⟩) ?_ ?_
                            rotate_left
                            · intro w'
                              go_simp
                              with_reducible rfl
                            rotate_left
                            · simp only [Act.put, List.setIfInBounds_toArray, List.set_cons_zero, List.set_cons_succ, i64_w, i32_w]
                              rfl
                            refine pure_ (i := 5) (N := some 108) (v := undef) (a' := ?_) #[true, true, true, true, true, true, false, false, false, false, false, false, false, false] rfl rfl (any_of HT_.out (by kernel_rfl)) (fun _ _ _ h => h) (Or.inr ⟨by rfl, rfl⟩) ?_ ?_
                            rotate_left
                            · simp only [Act.put, List.setIfInBounds_toArray, List.set_cons_zero, List.set_cons_succ, i64_w, i32_w]
                              rfl
                            refine pure_ (i := 6) (N := some 109) (v := undef) (a' := ?_) #[true, true, true, true, true, true, true, false, false, false, false, false, false, false] rfl rfl (any_of HT_.out (by kernel_rfl)) (fun _ _ _ h => h) (Or.inr ⟨by rfl, rfl⟩) ?_ ?_
                            rotate_left
                            · simp only [Act.put, List.setIfInBounds_toArray, List.set_cons_zero, List.set_cons_succ, i64_w, i32_w]
                              rfl
                            refine pure_ (i := 7) (N := some 110) (v := undef) (a' := ?_) #[true, true, true, true, true, true, true, true, false, false, false, false, false, false] rfl rfl (any_of HT_.out (by kernel_rfl)) (fun _ _ _ h => h) (Or.inr ⟨by rfl, rfl⟩) ?_ ?_
                            rotate_left
                            · simp only [Act.put, List.setIfInBounds_toArray, List.set_cons_zero, List.set_cons_succ, i64_w, i32_w]
                              rfl
                            refine pure_ (i := 8) (N := some 111) (v := undef) (a' := ?_) #[true, true, true, true, true, true, true, true, true, false, false, false, false, false] rfl rfl (any_of HT_.out (by kernel_rfl)) (fun _ _ _ h => h) (Or.inr ⟨by rfl, rfl⟩) ?_ ?_
                            rotate_left
                            · simp only [Act.put, List.setIfInBounds_toArray, List.set_cons_zero, List.set_cons_succ, i64_w, i32_w]
                              rfl
                            refine pure_ (i := 9) (N := some 112) (v := undef) (a' := ?_) #[true, true, true, true, true, true, true, true, true, true, false, false, false, false] rfl rfl (any_of HT_.out (by kernel_rfl)) (fun _ _ _ h => h) (Or.inr ⟨by rfl, rfl⟩) ?_ ?_
                            rotate_left
                            · simp only [Act.put, List.setIfInBounds_toArray, List.set_cons_zero, List.set_cons_succ, i64_w, i32_w]
                              rfl
                            refine pure_ (i := 10) (N := some 113) (v := undef) (a' := ?_) #[true, true, true, true, true, true, true, true, true, true, true, false, false, false] rfl rfl (any_of HT_.out (by kernel_rfl)) (fun _ _ _ h => h) (Or.inr ⟨by rfl, rfl⟩) ?_ ?_
                            rotate_left
                            · simp only [Act.put, List.setIfInBounds_toArray, List.set_cons_zero, List.set_cons_succ, i64_w, i32_w]
                              rfl
                            refine pure_ (i := 11) (N := some 114) (v := undef) (a' := ?_) #[true, true, true, true, true, true, true, true, true, true, true, true, false, false] rfl rfl (any_of HT_.out (by kernel_rfl)) (fun _ _ _ h => h) (Or.inr ⟨by rfl, rfl⟩) ?_ ?_
                            rotate_left
                            · simp only [Act.put, List.setIfInBounds_toArray, List.set_cons_zero, List.set_cons_succ, i64_w, i32_w]
                              rfl
                            refine pure_ (i := 12) (N := some 115) (v := ?_) (a' := ?_) #[true, true, true, true, true, true, true, true, true, true, true, true, true, false] rfl rfl (any_of HT_.out (by kernel_rfl)) (fun _ _ _ h => h) (Or.inl ⟨by rfl, ?_⟩) ?_ ?_
                            rotate_left
                            · intro w'
                              go_simp
                              with_reducible rfl
                            rotate_left
                            · simp only [Act.put, List.setIfInBounds_toArray, List.set_cons_zero, List.set_cons_succ, i64_w, i32_w]
                              rfl
                            refine pure_ (i := 13) (N := some 102) (v := ?_) (a' := ?_) #[true, true, true, true, true, true, true, true, true, true, true, true, true, true] rfl rfl (any_of HT_.out (by kernel_rfl)) (fun _ _ _ h => h) (Or.inl ⟨by rfl, ?_⟩) ?_ ?_
                            rotate_left
                            · intro w'
                              go_simp
                              with_reducible rfl
                            rotate_left
                            · simp only [Act.put, List.setIfInBounds_toArray, List.set_cons_zero, List.set_cons_succ, i64_w, i32_w]
                              rfl
                            refine done_ (done_of HT_.out (by kernel_rfl)) ?_
                            try go_wp2
                            go_meet
                            case rel => exact ⟨_, (false), (by first | rfl | (simp; done) | (simp [*]; done)), H', ⟨by have := HK1.out; have := HJ5.out; first | omega | exact Nat.le_refl _⟩, ⟨by (with_reducible repeat (first | apply Kd.R_alloc | apply Kd.R_drewN | apply Kd.R_drew)); first | exact HO_5.out | exact OHO_5.out⟩, ⟨by (with_reducible repeat (first | refine blk_drewN ?_ _ | refine blk_drew ?_ | refine blk_alloc ?_ _)); first | exact BK144.out | exact OBK144.out⟩, ⟨by repeat (first | (with_reducible first | exact HB.out | exact OHB.out | apply below_alloc | apply pw_below_drewN | apply below_drew1 | refine below_set ?_ GE144.out) | exact HB.out | exact OHB.out)⟩⟩
                        case rest =>
                          clear HC69
                          try clear p1
                          try clear q1
                          try clear hx1
                          try clear p2
                          try clear c4
                          try clear p4
                          try clear q4
                          try clear hx4
                          try clear c5
                          try clear p5
                          try clear q5
                          try clear hx5
                          try clear c6
                          try clear p6
                          try clear c7
                          try clear p7
                          try clear q7
                          try clear hx7
                          try clear p16
                          try clear q16
                          try clear hx16
                          try clear c40
                          try clear c41
                          try clear c42
                          try clear p42
                          try clear q42
                          try clear hx42
                          try clear c44
                          try clear c52
                          try clear c52b0
                          try clear c53
                          try clear c54
                          try clear c54b0
                          try clear p55
                          try clear q55
                          try clear hx55
                          try clear c56
                          try clear c56b0
                          try clear c63
                          try clear c63b0
                          try clear c63b1
                          try clear c64
                          try clear c64b0
                          try clear c64b1
                          try clear p64
                          try clear c65
                          try clear c65b0
                          try clear c65b1
                          try clear c66
                          try clear c70
                          try clear c70b0
                          try clear p71
                          try clear q71
                          try clear hx71
                          try clear c73
                          try clear c73b0
                          try clear p74
                          try clear q74
                          try clear hx74
                          try clear hcz59_0
                          try clear hcz59_1
                          try clear hcz59_2
                          try clear hcz59_3
                          try clear hcz62_0
                          try clear hcz62_1
                          try clear hcz62_2
                          try clear hcz62_3
                          try clear hcz67_0
                          try clear hcz67_1
                          try clear hcz67_2
                          try clear hcz67_3
                          try clear hfz59_0
                          try clear hfz59_1
                          try clear hfz59_2
                          try clear hfz59_3
                          try clear hfz62_0
                          try clear hfz62_1
                          try clear hfz62_2
                          try clear hfz62_3
                          try clear hfz67_0
                          try clear hfz67_1
                          try clear hfz67_2
                          try clear hfz67_3
                          try clear p16
                          try clear p42
                          try clear p55
                          try clear p71
                          try clear p74
                          try clear q16
                          try clear q42
                          try clear q55
                          try clear q71
                          try clear q74
                          obtain ⟨kq, x102_68, rfl, HA, HJ68, HO_5, BK144, HB⟩ := hcut
                          cases kq with
                          | zero => exact absurd HA.out (by simp [stratagemref07_Scan.j6])
                          | succ kj68 =>
                            have H := HA.out
                            clear HA
                            simp only [stratagemref07_Scan.j6] at H
                            by_cases c78 : x102_68 = true
                            · subst c78
                              have H1 : (if 0 ≤ x6_1 then (if x6_1 ≤ (wrap64 ((wrap64 (x6_1 + 1)) + 1)) then (if (wrap64 ((wrap64 (x6_1 + 1)) + 1)) ≤ (a0.size : Int) then (if x5_1.length < 3518437208883 then (stratagemref07_Scan.l0 kj68 a0 (x5_1 ++ [(⟨3, a0.extract (x6_1 : Int).toNat ((wrap64 ((wrap64 (x6_1 + 1)) + 1)) : Int).toNat, 0, x6_1⟩ : S68)]) (wrap64 ((wrap64 (x6_1 + 1)) + 1))) else (none)) else (none)) else (none)) else (none)) = some (r1, r2, r3) := by rw [if_pos rfl] at H; exact H
                              clear H
                              have H := H1
                              clear H1
                              by_cases c79 : 0 ≤ x6_1
                              · rw [if_pos c79] at H
                                have c79b0 := eq_true c79
                                have c79b1 : decide (0 ≤ x6_1) = true := decide_eq_true c79
                                clear c79
                                by_cases c80 : x6_1 ≤ (wrap64 ((wrap64 (x6_1 + 1)) + 1))
                                · rw [if_pos c80] at H
                                  have c80b0 := eq_true c80
                                  have c80b1 : decide (x6_1 ≤ (wrap64 ((wrap64 (x6_1 + 1)) + 1))) = true := decide_eq_true c80
                                  by_cases c81 : (wrap64 ((wrap64 (x6_1 + 1)) + 1)) ≤ (a0.size : Int)
                                  · rw [if_pos c81] at H
                                    have c81b0 := eq_true c81
                                    have c81b1 : decide ((wrap64 ((wrap64 (x6_1 + 1)) + 1)) ≤ (a0.size : Int)) = true := decide_eq_true c81
                                    by_cases c82 : x5_1.length < 3518437208883
                                    · rw [if_pos c82] at H
                                      have LMc82 := Aside0.mk c82
                                      clear c82
                                      obtain ⟨y160, hy160⟩ : ∃ y_ : List (S68), y_ = (x5_1 ++ [(⟨3, a0.extract (x6_1 : Int).toNat ((wrap64 ((wrap64 (x6_1 + 1)) + 1)) : Int).toNat, 0, x6_1⟩ : S68)]) := ⟨_, rfl⟩
                                      replace H : (stratagemref07_Scan.l0 kj68 a0 y160 (wrap64 ((wrap64 (x6_1 + 1)) + 1))) = some (r1, r2, r3) := by first | (rw [hy160]; with_reducible exact H) | (have H2_ := (Option.bind_some _ _).symm.trans H; rw [hy160]; with_reducible exact H2_) | (have H2_ := (Option.bind_some _ _).symm.trans H; with_reducible exact H2_) | with_reducible exact H | (rw [hy160]; exact H) | exact H
                                      have Ny160 := Aside0.mk hy160
                                      clear hy160
                                      have H' := Aside0.mk H
                                      clear H
                                      have hcz83_0 : wc.cell? ⟨gb144, 0, none⟩ = some (.int .i64 3) := (blk_cell BK144.out 0).trans rfl
                                      have hcz83_1 : wc.cell? ⟨gb144, 1, none⟩ = some (.string (⟨#[]⟩ : ByteArray)) := (blk_cell BK144.out 1).trans rfl
                                      have hcz83_2 : wc.cell? ⟨gb144, 2, none⟩ = some (.int .i64 0) := (blk_cell BK144.out 2).trans rfl
                                      have hcz83_3 : wc.cell? ⟨gb144, 3, none⟩ = some (.int .i64 x6_1) := (blk_cell BK144.out 3).trans rfl
                                      have hfz83_0 := blk_frozen BK144.out 0
                                      have hfz83_1 := blk_frozen BK144.out 1
                                      have hfz83_2 := blk_frozen BK144.out 2
                                      have hfz83_3 := blk_frozen BK144.out 3
                                      go_wp2_with (first | ((with_reducible refine gate_builtin (b := .append) (xs := #[.tmp 130, .tmp 132]) rfl ?_); at_builtin; refine Kd.R_append k68 (w0 := w) w.heap.size rfl (.tmp 130) (.tmp 132) 50 68 (.agg #[(.int .i64 0), (.string ⟨#[]⟩), (.int .i64 0), (.int .i64 0)]) 40 rfl Try.underlying50 info68 rfl (by decide) (by omega) u5 x5_1 (⟨3, a0.extract (x6_1 : Int).toNat ((wrap64 ((wrap64 (x6_1 + 1)) + 1)) : Int).toNat, 0, x6_1⟩ : S68) [.int .i64 3, .string (a0.extract (x6_1 : Int).toNat ((wrap64 ((wrap64 (x6_1 + 1)) + 1)) : Int).toNat), .int .i64 0, .int .i64 x6_1] (fun k_ => k_ ≠ gb144) (fun _ => False) rfl (by first | (go_simp; done) | (go_simp; rfl)) ?aP (fun _ hk => hk.elim) ?aF ?aO ?aB ?aS ?aL ?_; (case aP => exact k68_mkM _ _ _ (⟨3, a0.extract (x6_1 : Int).toNat ((wrap64 ((wrap64 (x6_1 + 1)) + 1)) : Int).toNat, 0, x6_1⟩ : S68)); (case aB => exact (by repeat (first | (with_reducible first | exact HB.out | apply below_alloc | apply pw_below_drewN | apply below_drew1 | refine below_set ?_ GE144.out) | exact HB.out))); (case aF => exact (fun k_ hk => Kd.freshB (g := gb144) (o := .cells #[.int .i64 3, .string (a0.extract (x6_1 : Int).toNat ((wrap64 ((wrap64 (x6_1 + 1)) + 1)) : Int).toNat), .int .i64 0, .int .i64 x6_1] 68 (0, 0)) (by (with_reducible repeat (first | refine blk_drewN ?_ _ | refine blk_drew ?_ | refine blk_alloc ?_ _)); refine blk_put (cs := #[.int .i64 3, .string (⟨#[]⟩ : ByteArray), .int .i64 0, .int .i64 x6_1]) ?_ 1 _ rfl; (with_reducible repeat (first | refine blk_drewN ?_ _ | refine blk_drew ?_ | refine blk_alloc ?_ _)); exact BK144.out) k_ hk)); (case aO => exact (by (with_reducible repeat (first | apply Kd.R_alloc | apply Kd.R_drewN | apply Kd.R_drew)); exact Kd.R_mono (Kd.R_far (p := ⟨gb144, 1, none⟩) (Kd.R_mono HO_5.out (fun k_ hk => (⟨hk, hk⟩ : _ ∧ k_ ≠ gb144))) (fun _ hk => hk.2) (.string (a0.extract (x6_1 : Int).toNat ((wrap64 ((wrap64 (x6_1 + 1)) + 1)) : Int).toNat))) (fun _ hk => hk.1))); (case aS => exact (below_size (by repeat (first | (with_reducible first | exact HB.out | apply below_alloc | apply pw_below_drewN | apply below_drew1 | refine below_set ?_ GE144.out) | exact HB.out)))); (case aL => have := LMc82.out; omega); intro v161 w84 ho hb hg hat; rw [← Ny160.out] at ho; have n0_ := Aside0.mk (blk_grown (g := gb144) (o := .cells #[.int .i64 3, .string (a0.extract (x6_1 : Int).toNat ((wrap64 ((wrap64 (x6_1 + 1)) + 1)) : Int).toNat), .int .i64 0, .int .i64 x6_1] 68 (0, 0)) (by (with_reducible repeat (first | refine blk_drewN ?_ _ | refine blk_drew ?_ | refine blk_alloc ?_ _)); refine blk_put (cs := #[.int .i64 3, .string (⟨#[]⟩ : ByteArray), .int .i64 0, .int .i64 x6_1]) ?_ 1 _ rfl; (with_reducible repeat (first | refine blk_drewN ?_ _ | refine blk_drew ?_ | refine blk_alloc ?_ _)); exact BK144.out) hg (Kd.R_away HO_5.out (fun _ hk => hk))); have n1_ := Aside0.mk (hb); have n2_ := Aside0.mk (ho); clear BK144; clear HB; clear HO_5; have BK144 := n0_; have HB := n1_; have HO162 := n2_; clear n0_ n1_ n2_; clear ho hb hg hat))
                                      go_roundg kj68
                                      case measure => have := HK1.out; have := HJ5.out; have := HJ68.out; omega
                                      case rel => exact ⟨(y160), (wrap64 ((wrap64 (x6_1 + 1)) + 1)), (by first | rfl | (simp; done) | (simp [*]; done)), H', ⟨by have := HK1.out; have := HJ5.out; have := HJ68.out; omega⟩, ⟨by (with_reducible repeat (first | apply Kd.R_alloc | apply Kd.R_drewN | apply Kd.R_drew)); exact Kd.R_mono HO162.out (fun _ hk => trivial)⟩, ⟨by repeat (first | (with_reducible first | exact HB.out | apply below_alloc | apply pw_below_drewN | apply below_drew1 | refine below_set ?_ GE144.out) | exact HB.out)⟩⟩
                                    · rw [if_neg c82] at H
                                      exact absurd H (by simp)
                                  · rw [if_neg c81] at H
                                    exact absurd H (by simp)
                                · rw [if_neg c80] at H
                                  exact absurd H (by simp)
                              · rw [if_neg c79] at H
                                exact absurd H (by simp)
                            · replace c78 := Bool.eq_false_iff.mpr c78
                              subst c78
                              have H1 : (if 0 ≤ x6_1 then (if x6_1 < (a0.size : Int) then ((stratagemref07_one.f kj68 (bt a0 x6_1)).bind fun t163 => (if t163 = true then (if x6_1 ≤ (wrap64 (x6_1 + 1)) then (if (wrap64 (x6_1 + 1)) ≤ (a0.size : Int) then (if x5_1.length < 3518437208883 then (stratagemref07_Scan.l0 kj68 a0 (x5_1 ++ [(⟨3, a0.extract (x6_1 : Int).toNat ((wrap64 (x6_1 + 1)) : Int).toNat, 0, x6_1⟩ : S68)]) (wrap64 (x6_1 + 1))) else (none)) else (none)) else (none)) else (some (([] : List (S68)), x6_1, 2)))) else (none)) else (none)) = some (r1, r2, r3) := by rw [if_neg (show ¬ (false = true) by decide)] at H; exact H
                              clear H
                              have H := H1
                              clear H1
                              by_cases c85 : 0 ≤ x6_1
                              · rw [if_pos c85] at H
                                have c85b0 : decide (0 ≤ x6_1) = true := decide_eq_true c85
                                clear c85
                                by_cases c86 : x6_1 < (a0.size : Int)
                                · rw [if_pos c86] at H
                                  have c86b0 : decide (x6_1 < (a0.size : Int)) = true := decide_eq_true c86
                                  clear c86
                                  replace H := Option.bind_eq_some_iff.mp H
                                  obtain ⟨t163, A880, H⟩ := H
                                  replace H : (if t163 = true then (if x6_1 ≤ (wrap64 (x6_1 + 1)) then (if (wrap64 (x6_1 + 1)) ≤ (a0.size : Int) then (if x5_1.length < 3518437208883 then (stratagemref07_Scan.l0 kj68 a0 (x5_1 ++ [(⟨3, a0.extract (x6_1 : Int).toNat ((wrap64 (x6_1 + 1)) : Int).toNat, 0, x6_1⟩ : S68)]) (wrap64 (x6_1 + 1))) else (none)) else (none)) else (none)) else (some (([] : List (S68)), x6_1, 2))) = some (r1, r2, r3) := H
                                  have A88 := Aside0.mk A880
                                  clear A880
                                  by_cases c89 : t163 = true
                                  · subst c89
                                    have H1 : (if x6_1 ≤ (wrap64 (x6_1 + 1)) then (if (wrap64 (x6_1 + 1)) ≤ (a0.size : Int) then (if x5_1.length < 3518437208883 then (stratagemref07_Scan.l0 kj68 a0 (x5_1 ++ [(⟨3, a0.extract (x6_1 : Int).toNat ((wrap64 (x6_1 + 1)) : Int).toNat, 0, x6_1⟩ : S68)]) (wrap64 (x6_1 + 1))) else (none)) else (none)) else (none)) = some (r1, r2, r3) := by rw [if_pos rfl] at H; exact H
                                    clear H
                                    have H := H1
                                    clear H1
                                    have c90b0 := eq_true (of_decide_eq_true (by first | (with_reducible assumption) | assumption) : 0 ≤ x6_1)
                                    by_cases c91 : x6_1 ≤ (wrap64 (x6_1 + 1))
                                    · rw [if_pos c91] at H
                                      have c91b0 := eq_true c91
                                      have c91b1 : decide (x6_1 ≤ (wrap64 (x6_1 + 1))) = true := decide_eq_true c91
                                      by_cases c92 : (wrap64 (x6_1 + 1)) ≤ (a0.size : Int)
                                      · rw [if_pos c92] at H
                                        have c92b0 := eq_true c92
                                        have c92b1 : decide ((wrap64 (x6_1 + 1)) ≤ (a0.size : Int)) = true := decide_eq_true c92
                                        by_cases c93 : x5_1.length < 3518437208883
                                        · rw [if_pos c93] at H
                                          have LMc93 := Aside0.mk c93
                                          clear c93
                                          obtain ⟨y164, hy164⟩ : ∃ y_ : List (S68), y_ = (x5_1 ++ [(⟨3, a0.extract (x6_1 : Int).toNat ((wrap64 (x6_1 + 1)) : Int).toNat, 0, x6_1⟩ : S68)]) := ⟨_, rfl⟩
                                          replace H : (stratagemref07_Scan.l0 kj68 a0 y164 (wrap64 (x6_1 + 1))) = some (r1, r2, r3) := by first | (rw [hy164]; with_reducible exact H) | (have H2_ := (Option.bind_some _ _).symm.trans H; rw [hy164]; with_reducible exact H2_) | (have H2_ := (Option.bind_some _ _).symm.trans H; with_reducible exact H2_) | with_reducible exact H | (rw [hy164]; exact H) | exact H
                                          have Ny164 := Aside0.mk hy164
                                          clear hy164
                                          have H' := Aside0.mk H
                                          clear H
                                          have p87 : 0 ≤ (x6_1 : Int) := of_decide_eq_true (by first | (with_reducible assumption) | assumption)
                                          have q87 : x6_1 < (a0.size : Int) := of_decide_eq_true (by first | (with_reducible assumption) | assumption)
                                          have hx87 := bt_at a0 x6_1
                                          replace p87 := eq_true p87
                                          replace q87 := eq_true q87
                                          go_wp2_with (first | ((with_reducible refine gate_callee (f := 43) rfl ?_); refine goesL_ (some 122) rfl rfl Try.func43 (by kernel_rfl) rfl #[.int .u8 (bt a0 x6_1)] rfl (by (try simp only [List.map_toArray, List.map_cons, List.map_nil]); first | done | rfl | (simp only [List.length_drop, List.length_take]; rfl)) ?_; (with_reducible refine (stratagemref07_one.calls kj68 (bt a0 x6_1) true _ A88.out).mono ?_); rintro e w94 ⟨rfl, hb⟩; refine ⟨_, rfl, ?_⟩; have n0_ := Aside0.mk (Kd.R_below (by (with_reducible repeat (first | apply Kd.R_alloc | apply Kd.R_drewN | apply Kd.R_drew)); exact HO_5.out) hb); have n1_ := Aside0.mk (blk_below (g := gb144) (o := .cells #[.int .i64 3, .string (⟨#[]⟩ : ByteArray), .int .i64 0, .int .i64 x6_1] 68 (0, 0)) (by (with_reducible repeat (first | refine blk_drewN ?_ _ | refine blk_drew ?_ | refine blk_alloc ?_ _)); exact BK144.out) hb); have n2_ := Aside0.mk (below_step (by repeat (first | (with_reducible first | exact HB.out | apply below_alloc | apply pw_below_drewN | apply below_drew1 | refine below_set ?_ GE144.out) | exact HB.out)) hb); clear HO_5; clear BK144; clear HB; have HO_5 := n0_; have BK144 := n1_; have HB := n2_; clear n0_ n1_ n2_; (try clear hb); (try clear hb2); (try clear hk); (try clear hi); have hcz95_0 : w94.cell? ⟨gb144, 0, none⟩ = some (.int .i64 3) := (blk_cell BK144.out 0).trans rfl; have hcz95_1 : w94.cell? ⟨gb144, 1, none⟩ = some (.string (⟨#[]⟩ : ByteArray)) := (blk_cell BK144.out 1).trans rfl; have hcz95_2 : w94.cell? ⟨gb144, 2, none⟩ = some (.int .i64 0) := (blk_cell BK144.out 2).trans rfl; have hcz95_3 : w94.cell? ⟨gb144, 3, none⟩ = some (.int .i64 x6_1) := (blk_cell BK144.out 3).trans rfl; have hfz95_0 := blk_frozen BK144.out 0; have hfz95_1 := blk_frozen BK144.out 1; have hfz95_2 := blk_frozen BK144.out 2; have hfz95_3 := blk_frozen BK144.out 3) | ((with_reducible refine gate_builtin (b := .append) (xs := #[.tmp 130, .tmp 132]) rfl ?_); at_builtin; refine Kd.R_append k68 (w0 := w) w.heap.size rfl (.tmp 130) (.tmp 132) 50 68 (.agg #[(.int .i64 0), (.string ⟨#[]⟩), (.int .i64 0), (.int .i64 0)]) 40 rfl Try.underlying50 info68 rfl (by decide) (by omega) u5 x5_1 (⟨3, a0.extract (x6_1 : Int).toNat ((wrap64 (x6_1 + 1)) : Int).toNat, 0, x6_1⟩ : S68) [.int .i64 3, .string (a0.extract (x6_1 : Int).toNat ((wrap64 (x6_1 + 1)) : Int).toNat), .int .i64 0, .int .i64 x6_1] (fun k_ => k_ ≠ gb144) (fun _ => False) rfl (by first | (go_simp; done) | (go_simp; rfl)) ?aP (fun _ hk => hk.elim) ?aF ?aO ?aB ?aS ?aL ?_; (case aP => exact k68_mkM _ _ _ (⟨3, a0.extract (x6_1 : Int).toNat ((wrap64 (x6_1 + 1)) : Int).toNat, 0, x6_1⟩ : S68)); (case aB => exact (by repeat (first | (with_reducible first | exact HB.out | apply below_alloc | apply pw_below_drewN | apply below_drew1 | refine below_set ?_ GE144.out) | exact HB.out))); (case aF => exact (fun k_ hk => Kd.freshB (g := gb144) (o := .cells #[.int .i64 3, .string (a0.extract (x6_1 : Int).toNat ((wrap64 (x6_1 + 1)) : Int).toNat), .int .i64 0, .int .i64 x6_1] 68 (0, 0)) (by (with_reducible repeat (first | refine blk_drewN ?_ _ | refine blk_drew ?_ | refine blk_alloc ?_ _)); refine blk_put (cs := #[.int .i64 3, .string (⟨#[]⟩ : ByteArray), .int .i64 0, .int .i64 x6_1]) ?_ 1 _ rfl; (with_reducible repeat (first | refine blk_drewN ?_ _ | refine blk_drew ?_ | refine blk_alloc ?_ _)); exact BK144.out) k_ hk)); (case aO => exact (by (with_reducible repeat (first | apply Kd.R_alloc | apply Kd.R_drewN | apply Kd.R_drew)); exact Kd.R_mono (Kd.R_far (p := ⟨gb144, 1, none⟩) (Kd.R_mono HO_5.out (fun k_ hk => (⟨hk, hk⟩ : _ ∧ k_ ≠ gb144))) (fun _ hk => hk.2) (.string (a0.extract (x6_1 : Int).toNat ((wrap64 (x6_1 + 1)) : Int).toNat))) (fun _ hk => hk.1))); (case aS => exact (below_size (by repeat (first | (with_reducible first | exact HB.out | apply below_alloc | apply pw_below_drewN | apply below_drew1 | refine below_set ?_ GE144.out) | exact HB.out)))); (case aL => have := LMc93.out; omega); intro v165 w96 ho hb hg hat; rw [← Ny164.out] at ho; have n0_ := Aside0.mk (blk_grown (g := gb144) (o := .cells #[.int .i64 3, .string (a0.extract (x6_1 : Int).toNat ((wrap64 (x6_1 + 1)) : Int).toNat), .int .i64 0, .int .i64 x6_1] 68 (0, 0)) (by (with_reducible repeat (first | refine blk_drewN ?_ _ | refine blk_drew ?_ | refine blk_alloc ?_ _)); refine blk_put (cs := #[.int .i64 3, .string (⟨#[]⟩ : ByteArray), .int .i64 0, .int .i64 x6_1]) ?_ 1 _ rfl; (with_reducible repeat (first | refine blk_drewN ?_ _ | refine blk_drew ?_ | refine blk_alloc ?_ _)); exact BK144.out) hg (Kd.R_away HO_5.out (fun _ hk => hk))); have n1_ := Aside0.mk (hb); have n2_ := Aside0.mk (ho); clear BK144; clear HB; clear HO_5; have BK144 := n0_; have HB := n1_; have HO166 := n2_; clear n0_ n1_ n2_; clear ho hb hg hat))
                                          go_roundg kj68
                                          case measure => have := HK1.out; have := HJ5.out; have := HJ68.out; omega
                                          case rel => exact ⟨(y164), ((wrap64 (x6_1 + 1))), (by first | rfl | (simp; done) | (simp [*]; done)), H', ⟨by have := HK1.out; have := HJ5.out; have := HJ68.out; omega⟩, ⟨by (with_reducible repeat (first | apply Kd.R_alloc | apply Kd.R_drewN | apply Kd.R_drew)); exact Kd.R_mono HO166.out (fun _ hk => trivial)⟩, ⟨by repeat (first | (with_reducible first | exact HB.out | apply below_alloc | apply pw_below_drewN | apply below_drew1 | refine below_set ?_ GE144.out) | exact HB.out)⟩⟩
                                        · rw [if_neg c93] at H
                                          exact absurd H (by simp)
                                      · rw [if_neg c92] at H
                                        exact absurd H (by simp)
                                    · rw [if_neg c91] at H
                                      exact absurd H (by simp)
                                  · replace c89 := Bool.eq_false_iff.mpr c89
                                    subst c89
                                    have H1 : (some (([] : List (S68)), x6_1, 2)) = some (r1, r2, r3) := by rw [if_neg (show ¬ (false = true) by decide)] at H; exact H
                                    clear H
                                    have H := H1
                                    clear H1
                                    simp only [Option.some.injEq, Prod.mk.injEq] at H
                                    obtain ⟨rfl, rfl, rfl⟩ := H
                                    have p87 : 0 ≤ (x6_1 : Int) := of_decide_eq_true (by first | (with_reducible assumption) | assumption)
                                    have q87 : x6_1 < (a0.size : Int) := of_decide_eq_true (by first | (with_reducible assumption) | assumption)
                                    have hx87 := bt_at a0 x6_1
                                    replace p87 := eq_true p87
                                    replace q87 := eq_true q87
                                    go_wp2_with (first | ((with_reducible refine gate_callee (f := 43) rfl ?_); refine goesL_ (some 122) rfl rfl Try.func43 (by kernel_rfl) rfl #[.int .u8 (bt a0 x6_1)] rfl (by (try simp only [List.map_toArray, List.map_cons, List.map_nil]); first | done | rfl | (simp only [List.length_drop, List.length_take]; rfl)) ?_; (with_reducible refine (stratagemref07_one.calls kj68 (bt a0 x6_1) false _ A88.out).mono ?_); rintro e w97 ⟨rfl, hb⟩; refine ⟨_, rfl, ?_⟩; have n0_ := Aside0.mk (Kd.R_below (by (with_reducible repeat (first | apply Kd.R_alloc | apply Kd.R_drewN | apply Kd.R_drew)); exact HO_5.out) hb); have n1_ := Aside0.mk (blk_below (g := gb144) (o := .cells #[.int .i64 3, .string (⟨#[]⟩ : ByteArray), .int .i64 0, .int .i64 x6_1] 68 (0, 0)) (by (with_reducible repeat (first | refine blk_drewN ?_ _ | refine blk_drew ?_ | refine blk_alloc ?_ _)); exact BK144.out) hb); have n2_ := Aside0.mk (below_step (by repeat (first | (with_reducible first | exact HB.out | apply below_alloc | apply pw_below_drewN | apply below_drew1 | refine below_set ?_ GE144.out) | exact HB.out)) hb); clear HO_5; clear BK144; clear HB; have HO_5 := n0_; have BK144 := n1_; have HB := n2_; clear n0_ n1_ n2_; (try clear hb); (try clear hb2); (try clear hk); (try clear hi)))
                                    go_ret3
                                    exact ⟨_, by first | rfl | (simp [errW_none, errW_some] <;> rfl) | (simp [*, errW_none, errW_some] <;> rfl), by first | exact Kd.R_nil _ _ _ _ _ | exact Kd.N_nil _ _ _ _ _ | exact Kd.V_nil _ _ _ _ _ | exact Kd.Q_nil _ _ _ _ _ | exact Kd.S_nil _ _ _ _ _, by repeat (first | (with_reducible first | exact HB.out | apply below_alloc | apply pw_below_drewN | apply below_drew1 | refine below_set ?_ GE144.out) | exact HB.out)⟩
                                · rw [if_neg c86] at H
                                  exact absurd H (by simp)
                              · rw [if_neg c85] at H
                                exact absurd H (by simp)
                  · rw [if_neg c15] at H
                    exact absurd H (by simp)
                · rw [if_neg c14] at H
                  exact absurd H (by simp)
        · rw [if_neg c5] at H
          have c5b0 : decide (x6_1 < (a0.size : Int)) = false := decide_eq_false c5
          clear c5
          simp only [Option.some.injEq, Prod.mk.injEq] at H
          obtain ⟨rfl, rfl, rfl⟩ := H
          go_wp2
          go_ret3
          exact ⟨_, by first | rfl | (simp [errW_none, errW_some] <;> rfl) | (simp [*, errW_none, errW_some] <;> rfl), by (with_reducible repeat (first | apply Kd.R_alloc | apply Kd.R_drewN | apply Kd.R_drew)); exact HO_5.out, by repeat (first | (with_reducible first | exact HB.out | apply below_alloc | apply pw_below_drewN | apply below_drew1) | exact HB.out)⟩

end Go.Proofs.Ytblfcmjcdclijaa.QS
