/- Ground: what holds hangs on no order, and on nothing but the constraint's variables: for every input. -/
import Derived.Test.YtbcgpomifflijaaRows
import Derived.Test.YtbcgpomifflijaaHShelf
import Derived.Test.YtbcgpomifflijaaRG3
import Derived.Test.YtbcgpomifflijaaR5
import Derived.Test.YtbcgpomifflijaaR3
import Derived.WalkKit
import Derived.ProofKit
import Derived.OpenShut
import Derived.ShutString
import Derived.ChangeOld
import Derived.Below
import Derived.SizedLaws
import Derived.LaidMore
import Derived.Lay
import Derived.LaidOnce
import Derived.SevenTiedAt
import Derived.Shelf.Vars
import Derived.HandedShaped
set_option linter.unusedVariables false
set_option linter.unusedSimpArgs false
namespace Go.Proofs.Ytbcgpomifflijaa.groundOrder
open Go.ChangeShapes Go.WideShapes Go.ChangeAt Go.RowKit Go.RR
set_option linter.unusedVariables false
set_option maxRecDepth 100000
/-- Nothing of the library's variables is looked at. -/
def gw : GW where
  G := fun _ => True
  B := 0
  st := fun _ _ _ _ => trivial
theorem gw_shape {w : World} (h : w.ShapedOpen Try.prog) : gw.G w := trivial
theorem gw_size {w : World} (h : gw.G w) : gw.B ≤ w.heap.size := Nat.zero_le _
theorem shelf : SOK Try.prog gw M.C.S := by
  intro f args v h us w M hsz hr hlt hi
  change RR.M.S f args = some v at h
  unfold RR.M.S at h
  split at h
  · rename_i hf
    subst hf
    split at h <;> try contradiction
    rename_i x y
    split at h <;> try contradiction
    rename_i hc
    cases h
    have e0 := (hr 0 (by simp)).int_inv
    have e1 := (hr 1 (by simp)).int_inv
    rw [us2 (us := us) (by simpa using hsz), e0, e1]
    obtain ⟨hx0, hx1, hy0, hy1⟩ := hc
    obtain ⟨a, rfl⟩ := Int.eq_ofNat_of_zero_le hx0
    obtain ⟨b, rfl⟩ := Int.eq_ofNat_of_zero_le hy0
    have hc := Try.bits_Mul64 a b (by omega) (by omega) w
    refine sok_same hlt ⟨_, Try.func59, by kernel_rfl, by kernel_rfl⟩ (u := .tuple #[.int .u64 ((a * b / 18446744073709551616 : Nat) : Int), .int .u64 ((a * b % 18446744073709551616 : Nat) : Int)]) ?_ hc
    refine .tup rfl fun i hi => ?_
    rcases (show i = 0 ∨ i = 1 by simp at hi; omega) with rfl | rfl
    · have : (a : Int) * b / 18446744073709551616 = ((a * b / 18446744073709551616 : Nat) : Int) := by simp
      simp only [List.getElem_cons_zero, this]
      exact .int
    · have : (a : Int) * b % 18446744073709551616 = ((a * b % 18446744073709551616 : Nat) : Int) := by simp
      simp only [List.getElem_cons_succ, List.getElem_cons_zero, this]
      exact .int
  · cases h
theorem shelfH : CRok Try.prog gw M.C.H := by
  intro f args h out h' he us w M ν hsz hr hh hi
  change RR.M.H f args h = some (out, h') at he
  unfold RR.M.H at he
  split at he
  · rename_i hf
    subst hf
    exact sort_ok ⟨_, Try.func31, by kernel_rfl, by kernel_rfl⟩ Try.slices_Sort_int Try.slices_Sort_int_none he hsz hr hh
  · split at he
    · rename_i hf
      subst hf
      exact comp_ok ⟨_, Try.func32, by kernel_rfl, by kernel_rfl⟩ Try.slices_Compact_int Try.slices_Compact_int_empty he hsz hr hh
    · cases he
theorem walk {us : Array Value} {w : World} (x0 : Con) (x1 : List Int) (x2 : Int) (x3 : Int) (y2 : 0 ≤ x2 ∧ x2 ≤ 255) (y3 : 0 ≤ x3 ∧ x3 ≤ 255) (hsz : us.size = 4) (h0 : Rel w (fun b => b < w.heap.size) nu0 (conV x0) (us.getD 0 undef)) (h1 : Rel w (fun b => b < w.heap.size) nu0 (intsV x1) (us.getD 1 undef)) (h2 : Rel w (fun b => b < w.heap.size) nu0 (.int .u8 x2) (us.getD 2 undef)) (h3 : Rel w (fun b => b < w.heap.size) nu0 (.int .u8 x3) (us.getD 3 undef))
    (hG : gw.G w) : Calls Try.prog 5 us w fun e w' => e = .returned (.bool true) ∧ Below w.heap.size w w' := by
  obtain ⟨k, hk⟩ := acw_law (M.order x0 x1 x2 x3 y2 y3 [])
  exact law_true M.T_ok shelf shelfH hk (by simpa using hsz) (fun i hi => by
    rcases (show i = 0 ∨ i = 1 ∨ i = 2 ∨ i = 3 by simp at hi; omega) with rfl | rfl | rfl | rfl
    · exact h0
    · exact h1
    · exact h2
    · exact h3) hG (gw_size hG)
theorem own : ownKnob Try.prog.godebug = none := by kernel_rfl
theorem out : laidOutB Try.prog = true := by kernel_rfl
theorem readable : ((Try.f5.params.toList).all fun t => Try.prog.readableRec t && decide (t < Try.prog.types.size)) = true := by kernel_rfl
theorem lifted (os : Os) (started : os.Started) (H : Type) (enc : TypeId × Value → H) :
    ReturnsInHanded {} Try.checked os 5 .any (Rows.groundOrderSpec.pre6 enc Try.prog Try.f5 Rows.groundOrderRow.domain false) (Rows.groundOrderSpec.post enc Try.prog Try.f5 false true false false) := by
  refine returnsInHanded_of_change_shaped (C := Try.checked) own started (by kernel_rfl) Try.func5
    (ChangeSpec.witness6 (enc := enc) (C := Try.checked) false ⟨#[], #[.agg #[.int .i64 0, .slice none 0 0, .slice none 0 0, .int .i64 0, .int .i64 0, .slice none 0 0], .slice none 0 0, .int .u8 0, .int .u8 0], []⟩ 8 (by kernel_rfl) (by kernel_rfl) (by kernel_rfl) (by kernel_rfl)) ?_
  intro W base args ds gs before hval0 hW hcnd hsz0 hsh _
  have hval : ∀ (j : Nat) t v, Try.f5.params[j]? = some t → args[j]? = some v → Value.okWide Try.prog W .any base t v := hval0
  have hW' := hW
  obtain ⟨p, q, hA0, hV, rfl, hfz, hnd⟩ := hW
  have hA : DataW.TrodAll enc Try.prog W 0 (fun _ => true) true Try.f5.params.toList args.toList ds p := hA0
  have hAll := hA
  rw [Try.params5] at hA hval
  obtain ⟨v0, vs0, d0, ds0, p0, q0, hargs, rfl, rfl, h0, r0⟩ := trodAll_cons hA
  obtain ⟨v1, vs1, d1, ds1, p1, q1, rfl, rfl, rfl, h1, r1⟩ := trodAll_cons r0
  obtain ⟨v2, vs2, d2, ds2, p2, q2, rfl, rfl, rfl, h2, r2⟩ := trodAll_cons r1
  obtain ⟨v3, vs3, d3, ds3, p3, q3, rfl, rfl, rfl, h3, r3⟩ := trodAll_cons r2
  obtain ⟨rfl, rfl, rfl⟩ := trodAll_nil r3
  obtain rfl : args = #[v0, v1, v2, v3] := by cases args; simp_all
  obtain ⟨rfl, rfl⟩ := trodVars_none hV
  obtain ⟨c0, a0, b0⟩ := open_arg (s := conSh) (by kernel_rfl) (hval 0 _ v0 rfl rfl) h0
  obtain ⟨x0, e0⟩ := has_con a0
  rw [e0] at b0
  obtain ⟨c1, a1, b1⟩ := open_arg (s := intsSh) (by kernel_rfl) (hval 1 _ v1 rfl rfl) h1
  obtain ⟨x1, rfl, -⟩ := has_ints a1
  obtain ⟨c2, a2, b2⟩ := open_arg (s := .int .u8) (by kernel_rfl) (hval 2 _ v2 rfl rfl) h2
  obtain ⟨x2, rfl, y2⟩ := has_u8 a2
  obtain ⟨c3, a3, b3⟩ := open_arg (s := .int .u8) (by kernel_rfl) (hval 3 _ v3 rfl rfl) h3
  obtain ⟨x3, rfl, y3⟩ := has_u8 a3
  refine (walk (us := #[v0, v1, v2, v3]) x0 x1 x2 x3 y2 y3 rfl b0 b1 b2 b3 (gw_shape hsh)).mono fun e W' ⟨he, bel⟩ => ?_
  subst he
  exact ⟨_, rfl, _, _, _, [], _, [], hW', trodAll_mk1 (shut_bool Try.underlying4 _), Below.trodAll out bel readable hAll, rfl, bel.frame _, fun h => by cases h⟩
theorem over : Rows.groundOrderRow.holds Try.pinned (OpenSpec.ofChange Rows.groundOrderSpec) :=
  OpenClaim.holds_of_wide 5 Try.f5 rfl rfl rfl rfl rfl rfl rfl ⟨rfl, rfl, rfl, rfl, rfl⟩ rfl rfl rfl rfl rfl (by kernel_rfl) Try.func5 (by kernel_rfl)
    (of_decide_eq_true (by kernel_rfl)) (by unfold Func.isWrapper; first | (rw [if_pos (by decide +kernel)]; kernel_rfl) | (rw [if_neg (by decide +kernel)]; exact ⟨rfl, rfl⟩))
    (fun os started H enc _ => lifted os started H enc)
theorem proved : Rows.GroundOrderSaid := over
#print axioms proved
end Go.Proofs.Ytbcgpomifflijaa.groundOrder
