/- Cells of another type are turned back alike. -/
import Derived.Test.YtkbdlifjhcmgbaaRows
import Derived.Test.YtkbdlifjhcmgbaaHShelf
import Derived.Test.YtkbdlifjhcmgbaaRT4
import Derived.Test.YtkbdlifjhcmgbaaR5
import Derived.Test.YtkbdlifjhcmgbaaR3
import Derived.WalkKit
import Derived.ProofKit
import Derived.OpenShut
import Derived.ShutString
import Derived.ChangeOld
import Derived.Below
import Derived.SizedLaws
import Derived.LaidMore
import Derived.Lay
import Derived.LaidOnce
import Derived.SevenTiedAt
import Derived.Shelf.Vars
import Derived.HandedShaped
set_option linter.unusedVariables false
set_option linter.unusedSimpArgs false
namespace Go.Proofs.Ytkbdlifjhcmgbaa.trailTypes
open Go.ChangeShapes Go.WideShapes Go.ChangeAt Go.RowKit Go.RR
set_option linter.unusedVariables false
set_option maxRecDepth 100000
/-- Nothing of the library's variables is looked at. -/
def gw : GW where
  G := fun _ => True
  B := 0
  st := fun _ _ _ _ => trivial
theorem gw_shape {w : World} (h : w.ShapedOpen Try.prog) : gw.G w := trivial
theorem gw_size {w : World} (h : gw.G w) : gw.B ≤ w.heap.size := Nat.zero_le _
theorem shelf : SOK Try.prog gw M.C.S := by
  intro f args v h us w M hsz hr hlt hi
  cases h
theorem shelf0 : CallOK Try.prog gw M.C0.H := by
  intro f args h out h' he us w M ν hsz hr hh hi
  change RR.M.H0 f args h = some (out, h') at he
  unfold RR.M.H0 at he
  split at he
  · rename_i hf
    subst hf
    exact sort_ok ⟨_, Try.func53, by kernel_rfl, by kernel_rfl⟩ Try.slices_Sort_int Try.slices_Sort_int_none he hsz hr hh
  · cases he
theorem shelf1 : CallOK Try.prog gw M.C1.H := by
  refine HN_ok (C := M.C0) rfl M.T_ok shelf shelf0 fun f F h => ?_
  unfold M.TN1 at h
  split at h
  · rename_i e
    subst e
    cases h
    exact M.ok_maps_DeleteFunc_map_int_int_int_int
  · split at h
    · rename_i e
      subst e
      cases h
      exact M.ok_maps_DeleteFunc_map_int_string_int_string
    · cases h
theorem shelfH : CallOK Try.prog gw M.C.H := by
  refine HN_ok (C := M.C1) rfl M.T_ok shelf shelf1 fun f F h => ?_
  unfold M.TN2 at h
  split at h
  · rename_i e
    subst e
    cases h
    exact M.ok_trail_Trail_int_Undo
  · split at h
    · rename_i e
      subst e
      cases h
      exact M.ok_trail_Trail_string_Undo
    · split at h
      · rename_i e
        subst e
        cases h
        exact M.ok_trail_Trail_int_Changed
      · split at h
        · rename_i e
          subst e
          cases h
          exact M.ok_trail_Trail_string_Changed
        · cases h
theorem walk {us : Array Value} {w : World} (x0 : Int) (x1 : List M.Ac) (y0 : 0 ≤ x0 ∧ x0 ≤ 255) (hsz : us.size = 2) (h0 : Rel w (fun b => b < w.heap.size) nu0 (.int .u8 x0) (us.getD 0 undef)) (h1 : Rel w (fun b => b < w.heap.size) nu0 (M.acsV x1) (us.getD 1 undef))
    (hG : gw.G w) : Calls Try.prog 5 us w fun e w' => e = .returned (.bool true) ∧ Below w.heap.size w w' := by
  obtain ⟨k, hk⟩ := acw_law (TY.types x0 x1 y0 [])
  exact law_true M.T_ok shelf shelfH hk (by simpa using hsz) (fun i hi => by
    rcases (show i = 0 ∨ i = 1 by simp at hi; omega) with rfl | rfl
    · exact h0
    · exact h1) hG (gw_size hG)
theorem own : ownKnob Try.prog.godebug = none := by kernel_rfl
theorem out : laidOutB Try.prog = true := by kernel_rfl
theorem readable : ((Try.f5.params.toList).all fun t => Try.prog.readableRec t && decide (t < Try.prog.types.size)) = true := by kernel_rfl
theorem lifted (os : Os) (started : os.Started) (H : Type) (enc : TypeId × Value → H) :
    ReturnsInHanded {} Try.checked os 5 .any (Rows.trailTypesSpec.pre6 enc Try.prog Try.f5 Rows.trailTypesRow.domain false) (Rows.trailTypesSpec.post enc Try.prog Try.f5 false true false false) := by
  refine returnsInHanded_of_change_shaped (C := Try.checked) own started (by kernel_rfl) Try.func5
    (ChangeSpec.witness6 (enc := enc) (C := Try.checked) false ⟨#[], #[.int .u8 0, .slice none 0 0], []⟩ 8 (by kernel_rfl) (by kernel_rfl) (by kernel_rfl) (by kernel_rfl)) ?_
  intro W base args ds gs before hval0 hW hcnd hsz0 hsh _
  have hval : ∀ (j : Nat) t v, Try.f5.params[j]? = some t → args[j]? = some v → Value.okWide Try.prog W .any base t v := hval0
  have hW' := hW
  obtain ⟨p, q, hA0, hV, rfl, hfz, hnd⟩ := hW
  have hA : DataW.TrodAll enc Try.prog W 0 (fun _ => true) true Try.f5.params.toList args.toList ds p := hA0
  have hAll := hA
  rw [Try.params5] at hA hval
  obtain ⟨v0, vs0, d0, ds0, p0, q0, hargs, rfl, rfl, h0, r0⟩ := trodAll_cons hA
  obtain ⟨v1, vs1, d1, ds1, p1, q1, rfl, rfl, rfl, h1, r1⟩ := trodAll_cons r0
  obtain ⟨rfl, rfl, rfl⟩ := trodAll_nil r1
  obtain rfl : args = #[v0, v1] := by cases args; simp_all
  obtain ⟨rfl, rfl⟩ := trodVars_none hV
  obtain ⟨c0, a0, b0⟩ := open_arg (s := .int .u8) (by kernel_rfl) (hval 0 _ v0 rfl rfl) h0
  obtain ⟨x0, rfl, y0⟩ := has_u8 a0
  obtain ⟨c1, a1, b1⟩ := open_arg (s := (.sl M.actSh)) (by kernel_rfl) (hval 1 _ v1 rfl rfl) h1
  obtain ⟨x1, rfl, -⟩ := M.has_acts a1
  refine (walk (us := #[v0, v1]) x0 x1 y0 rfl b0 b1 (gw_shape hsh)).mono fun e W' ⟨he, bel⟩ => ?_
  subst he
  exact ⟨_, rfl, _, _, _, [], _, [], hW', trodAll_mk1 (shut_bool Try.underlying4 _), Below.trodAll out bel readable hAll, rfl, bel.frame _, fun h => by cases h⟩
theorem over : Rows.trailTypesRow.holds Try.pinned (OpenSpec.ofChange Rows.trailTypesSpec) :=
  OpenClaim.holds_of_wide 5 Try.f5 rfl rfl rfl rfl rfl rfl rfl ⟨rfl, rfl, rfl, rfl, rfl⟩ rfl rfl rfl rfl rfl (by kernel_rfl) Try.func5 (by kernel_rfl)
    (of_decide_eq_true (by kernel_rfl)) (by unfold Func.isWrapper; first | (rw [if_pos (by decide +kernel)]; kernel_rfl) | (rw [if_neg (by decide +kernel)]; exact ⟨rfl, rfl⟩))
    (fun os started H enc _ => lifted os started H enc)
theorem proved : Rows.TrailTypesSaid := over
#print axioms proved
end Go.Proofs.Ytkbdlifjhcmgbaa.trailTypes
