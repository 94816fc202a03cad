/- The law on union, meet and less of lists: the row. -/
import Derived.Test.YtkbdlifjhcmgbaaRows
import Derived.Test.YtkbdlifjhcmgbaaHShelf
import Derived.Test.YtkbdlifjhcmgbaaRG
import Derived.Test.YtkbdlifjhcmgbaaR5
import Derived.Test.YtkbdlifjhcmgbaaR3
import Derived.WalkKit
import Derived.ProofKit
import Derived.OpenShut
import Derived.ShutString
import Derived.ChangeOld
import Derived.Below
import Derived.SizedLaws
import Derived.LaidMore
import Derived.Lay
import Derived.LaidOnce
import Derived.SevenTiedAt
import Derived.Shelf.Vars
import Derived.HandedShaped
set_option linter.unusedVariables false
set_option linter.unusedSimpArgs false
namespace Go.Proofs.Ytkbdlifjhcmgbaa.spansSets
open Go.ChangeShapes Go.WideShapes Go.ChangeAt Go.RowKit Go.RR
set_option linter.unusedVariables false
set_option maxRecDepth 100000
/-- Nothing of the library's variables is looked at. -/
def gw : GW where
  G := fun _ => True
  B := 0
  st := fun _ _ _ _ => trivial
theorem gw_shape {w : World} (h : w.ShapedOpen Try.prog) : gw.G w := trivial
theorem gw_size {w : World} (h : gw.G w) : gw.B ≤ w.heap.size := Nat.zero_le _
theorem shelf : SOK Try.prog gw M.C.S := by
  intro f args v h us w M hsz hr hlt hi
  cases h
def growR : Go.Shelf.Ren := ⟨fun | 4 => 91 | n => n, fun | 22 => 57 | 25 => 87 | n => n, fun n => n⟩
theorem growL : Go.Proofs.Lays8.n4 Try.prog growR := {
  mixed := by kernel_rfl
  f4 := ⟨"slices.Grow[[]stratagem/api.Span,stratagem/api.Span]", by decide, Try.func91.trans (congrArg some (by kernel_rfl))⟩
  t0 := Try.underlying0
  a0 := Try.isAgg0
  z0 := Try.sizeOf0
  v0 := Try.zeroValue0
  t3 := Try.underlying3
  a3 := Try.isAgg3
  z3 := Try.sizeOf3
  v3 := Try.zeroValue3
  t4 := Try.underlying4
  a4 := Try.isAgg4
  z4 := Try.sizeOf4
  v4 := Try.zeroValue4
  t9 := Try.underlying9
  a9 := Try.isAgg9
  z9 := Try.sizeOf9
  v9 := Try.zeroValue9
  t20 := Try.underlying20
  a20 := Try.isAgg20
  z20 := Try.sizeOf20
  v20 := Try.zeroValue20
  t22 := Try.underlying57
  a22 := Try.isAgg57
  z22 := Try.sizeOf57
  v22 := Try.zeroValue57 }
theorem growI : ∃ i0 : TypeInfo, Try.prog.info? (growR.t 25) = some i0 ∧ i0.zero = some (.agg #[.int .i64 0, .int .i64 0]) ∧ i0.size = 2 ∧ i0.bytes = 16 := by
  have h : (Try.prog.info? 87).map (fun i => (i.zero, i.size, i.bytes)) = some (some (.agg #[.int .i64 0, .int .i64 0]), 2, 16) := by kernel_rfl
  obtain ⟨i, h1, h2⟩ := Option.map_eq_some_iff.1 h
  simp only [Prod.mk.injEq] at h2
  exact ⟨i, h1, h2.1, h2.2.1, h2.2.2⟩
theorem shelfH : CallOK Try.prog gw M.C.H := by
  intro f args h out h' he us w M ν hsz hr hh hi
  change RR.M.H f args h = some (out, h') at he
  unfold RR.M.H at he
  split at he
  · rename_i hf
    subst hf
    exact sort_ok ⟨_, Try.func53, by kernel_rfl, by kernel_rfl⟩ Try.slices_Sort_int Try.slices_Sort_int_none he hsz hr hh
  · split at he
    · rename_i hf
      subst hf
      exact comp_ok ⟨_, Try.func78, by kernel_rfl, by kernel_rfl⟩ Try.slices_Compact_int Try.slices_Compact_int_empty he hsz hr hh
    · split at he
      · rename_i hf
        subst hf
        obtain ⟨i0, hi0, hz0, hs0, hb0⟩ := growI
        refine grow_ok ⟨_, Try.func91, by kernel_rfl, by kernel_rfl⟩ (by omega) (fun a n w h0 h1 => ?_) (fun a w => ?_) he hsz hr hh
        · refine (Any8.slices_Grow_grow growL i0 _ hi0 hz0 (by omega) a 0 0 n [] w (Nat.le_refl _) (by omega) (by rw [hb0]; omega) (by omega) (by simp) (fun _ => rfl) (fun a _ j v hj => by simp at hj)).mono fun e w' ⟨k1, k2⟩ => ⟨_, _, _, k1, ?_, k2⟩
          have hg := grownCap_ge w (0 + n) 0 (growR.t 25)
          simp only [Array.size_append, zeroCells_size]
          have hc : (Value.agg #[.int .i64 0, .int .i64 0]).cells.size = 2 := rfl
          rw [hc]
          simp only [Nat.zero_add] at hg
          simp
          omega
        · exact Any8.slices_Grow_room growL a 0 0 0 w (Nat.le_refl _) (by omega) (by omega) (by omega)
      · cases he
theorem walk {us : Array Value} {w : World} (x0 : List Sp) (x1 : List Sp)  (hsz : us.size = 2) (h0 : Rel w (fun b => b < w.heap.size) nu0 (spsV x0) (us.getD 0 undef)) (h1 : Rel w (fun b => b < w.heap.size) nu0 (spsV x1) (us.getD 1 undef))
    (hG : gw.G w) : Calls Try.prog 7 us w fun e w' => e = .returned (.bool true) ∧ Below w.heap.size w w' := by
  obtain ⟨k, hk⟩ := acw_law (M.sets x0 x1 [])
  exact law_true M.T_ok shelf shelfH hk (by simpa using hsz) (fun i hi => by
    rcases (show i = 0 ∨ i = 1 by simp at hi; omega) with rfl | rfl
    · exact h0
    · exact h1) hG (gw_size hG)
theorem own : ownKnob Try.prog.godebug = none := by kernel_rfl
theorem out : laidOutB Try.prog = true := by kernel_rfl
theorem readable : ((Try.f7.params.toList).all fun t => Try.prog.readableRec t && decide (t < Try.prog.types.size)) = true := by kernel_rfl
theorem lifted (os : Os) (started : os.Started) (H : Type) (enc : TypeId × Value → H) :
    ReturnsInHanded {} Try.checked os 7 .any (Rows.spansSetsSpec.pre6 enc Try.prog Try.f7 Rows.spansSetsRow.domain false) (Rows.spansSetsSpec.post enc Try.prog Try.f7 false true false false) := by
  refine returnsInHanded_of_change_shaped (C := Try.checked) own started (by kernel_rfl) Try.func7
    (ChangeSpec.witness6 (enc := enc) (C := Try.checked) false ⟨#[], #[.slice none 0 0, .slice none 0 0], []⟩ 8 (by kernel_rfl) (by kernel_rfl) (by kernel_rfl) (by kernel_rfl)) ?_
  intro W base args ds gs before hval0 hW hcnd hsz0 hsh _
  have hval : ∀ (j : Nat) t v, Try.f7.params[j]? = some t → args[j]? = some v → Value.okWide Try.prog W .any base t v := hval0
  have hW' := hW
  obtain ⟨p, q, hA0, hV, rfl, hfz, hnd⟩ := hW
  have hA : DataW.TrodAll enc Try.prog W 0 (fun _ => true) true Try.f7.params.toList args.toList ds p := hA0
  have hAll := hA
  rw [Try.params7] at hA hval
  obtain ⟨v0, vs0, d0, ds0, p0, q0, hargs, rfl, rfl, h0, r0⟩ := trodAll_cons hA
  obtain ⟨v1, vs1, d1, ds1, p1, q1, rfl, rfl, rfl, h1, r1⟩ := trodAll_cons r0
  obtain ⟨rfl, rfl, rfl⟩ := trodAll_nil r1
  obtain rfl : args = #[v0, v1] := by cases args; simp_all
  obtain ⟨rfl, rfl⟩ := trodVars_none hV
  obtain ⟨c0, a0, b0⟩ := open_arg (s := (.sl spSh)) (by kernel_rfl) (hval 0 _ v0 rfl rfl) h0
  obtain ⟨x0, rfl, -⟩ := has_spans a0
  obtain ⟨c1, a1, b1⟩ := open_arg (s := (.sl spSh)) (by kernel_rfl) (hval 1 _ v1 rfl rfl) h1
  obtain ⟨x1, rfl, -⟩ := has_spans a1
  refine (walk (us := #[v0, v1]) x0 x1 rfl b0 b1 (gw_shape hsh)).mono fun e W' ⟨he, bel⟩ => ?_
  subst he
  exact ⟨_, rfl, _, _, _, [], _, [], hW', trodAll_mk1 (shut_bool Try.underlying4 _), Below.trodAll out bel readable hAll, rfl, bel.frame _, fun h => by cases h⟩
theorem over : Rows.spansSetsRow.holds Try.pinned (OpenSpec.ofChange Rows.spansSetsSpec) :=
  OpenClaim.holds_of_wide 7 Try.f7 rfl rfl rfl rfl rfl rfl rfl ⟨rfl, rfl, rfl, rfl, rfl⟩ rfl rfl rfl rfl rfl (by kernel_rfl) Try.func7 (by kernel_rfl)
    (of_decide_eq_true (by kernel_rfl)) (by unfold Func.isWrapper; first | (rw [if_pos (by decide +kernel)]; kernel_rfl) | (rw [if_neg (by decide +kernel)]; exact ⟨rfl, rfl⟩))
    (fun os started H enc _ => lifted os started H enc)
theorem proved : Rows.SpansSetsSaid := over
#print axioms proved
end Go.Proofs.Ytkbdlifjhcmgbaa.spansSets
