/- What stands ahead of a wrong place of a text is right; two texts parted by a line end are the tokens of both: for every input. -/
import Derived.Test.YtblfcmjcdclijaaRows
import Derived.Test.YtblfcmjcdclijaaHShelf
import Derived.Test.YtblfcmjcdclijaaRSc
import Derived.Test.YtblfcmjcdclijaaR3
import Derived.WalkKit
import Derived.ProofKit
import Derived.OpenShut
import Derived.ShutString
import Derived.ChangeOld
import Derived.Below
import Derived.SizedLaws
import Derived.HandedShaped
import Derived.Shelf.Vars
set_option linter.unusedVariables false
set_option linter.unusedSimpArgs false
namespace Go.Proofs.Ytblfcmjcdclijaa.scanCut
open Go.ChangeShapes Go.WideShapes Go.ChangeAt Go.RowKit Go.RR
open Go.ChangeMaps (open_string shut_string)
set_option linter.unusedVariables false
/-- The library's variable internal/bytealg.MaxLen holds some number. -/
def gw : GW where
  G := fun w => ∃ m, w.cell? ⟨0, 0, none⟩ = some (.int .i64 m)
  B := 1
  st := fun w w' h hg => by
    obtain ⟨m, hm⟩ := hg
    exact ⟨m, by rw [World.cell?_of_block (w := w) (h 0 (by omega))]; exact hm⟩
theorem gw_shape {w : World} (h : w.ShapedOpen Try.prog) : gw.G w :=
  Go.Proofs.cell_of_shapedOpen_int (zero := #[.int .i64 0]) (t := 3) h (of_decide_eq_true (by kernel_rfl)) (by kernel_rfl) rfl (by kernel_rfl) (by kernel_rfl) Try.underlying3
theorem gw_size {w : World} (h : gw.G w) : gw.B ≤ w.heap.size := by
  obtain ⟨m, hm⟩ := h
  rcases Nat.lt_or_ge 0 w.heap.size with h1 | h1
  · exact h1
  · have : w.heap[0]? = none := Array.getElem?_eq_none (by omega)
    simp [World.cell?, this] at hm
theorem table : ∀ f F, RR.A.C.T f = some F → mF Try.prog f F = true := by
  intro f F h
  change RR.A.T f = some F at h
  unfold RR.A.T at h
  split at h <;> first
    | (cases h; first | exact RR.A.ok8 | exact RR.A.ok28 | exact RR.A.ok29 | exact RR.A.ok31 | exact RR.A.ok32 | exact RR.A.ok39 | exact RR.A.ok44 | exact RR.A.ok45 | exact RR.A.ok46 | exact RR.A.ok47 | exact RR.A.ok48)
    | cases h
theorem shelf : SOK Try.prog gw RR.A.C.S := by
  intro f args v h us w M hsz hr hlt hi
  change RR.A.S f args = some v at h
  unfold RR.A.S at h
  split at h
  · rename_i s t
    split at h <;> try contradiction
    rename_i hs
    cases h
    have e0 := (hr 0 (by simp)).str_inv
    have e1 := (hr 1 (by simp)).str_inv
    obtain ⟨⟨m, hm⟩, _⟩ := hi
    rw [us2 (us := us) (by simpa using hsz), e0, e1]
    refine sok_same hlt ⟨_, Try.func49, by kernel_rfl, by kernel_rfl⟩ .bool ?_
    exact Try.strings_Contains ⟨s.toArray⟩ ⟨t.toArray⟩ m w (by simpa [ByteArray.size] using hs) hm
  · rename_i s c
    cases h
    have e0 := (hr 0 (by simp)).str_inv
    have e1 := (hr 1 (by simp)).int_inv
    rw [us2 (us := us) (by simpa using hsz), e0, e1]
    refine sok_same hlt ⟨_, Try.func50, by kernel_rfl, by kernel_rfl⟩ .int ?_
    exact Try.strings_IndexByte ⟨s.toArray⟩ c w
  · cases h
theorem walk (a b : ByteArray) (w : World) (hG : gw.G w) : Calls Try.prog 8 #[.string a, .string b] w fun e w' => e = .returned (.bool true) ∧ Below w.heap.size w w' :=
  law_true table shelf (RR.A.scanCut a.data.toList b.data.toList []) rfl (fun i hi => by
    rcases (show i = 0 ∨ i = 1 by simp at hi; omega) with rfl | rfl
    · exact arg_str a _ _ _
    · exact arg_str b _ _ _) hG (gw_size hG)
theorem own : ownKnob Try.prog.godebug = none := by kernel_rfl
set_option maxRecDepth 100000 in
theorem lifted (os : Os) (started : os.Started) (H : Type) (enc : TypeId × Value → H) :
    ReturnsInHanded {} Try.checked os 8 .any (Rows.scanCutSpec.pre6 enc Try.prog Try.f8 Rows.scanCutRow.domain false) (Rows.scanCutSpec.post enc Try.prog Try.f8 false true false false) := by
  refine returnsInHanded_of_change_shaped (C := Try.checked) own started (by kernel_rfl) Try.func8
    (ChangeSpec.witness6 (enc := enc) (C := Try.checked) false ⟨#[], #[.string ByteArray.empty, .string ByteArray.empty], []⟩ 8 (by kernel_rfl) (by kernel_rfl) (by kernel_rfl) (by kernel_rfl)) ?_
  intro W base args ds gs before hval0 hW hcnd hsz0 hsh _
  have hval : ∀ (j : Nat) t v, Try.f8.params[j]? = some t → args[j]? = some v → Value.okWide Try.prog W .any base t v := hval0
  have hW' := hW
  obtain ⟨p, q, hA0, hV, rfl, hfz, hnd⟩ := hW
  have hA : DataW.TrodAll enc Try.prog W 0 (fun _ => true) true Try.f8.params.toList args.toList ds p := hA0
  rw [Try.params8] at hA hval
  obtain ⟨v0, vs0, d0, ds0, p0, q0, hargs, rfl, rfl, h0, r0⟩ := trodAll_cons hA
  obtain ⟨v1, vs1, d1, ds1, p1, q1, rfl, rfl, rfl, h1, r1⟩ := trodAll_cons r0
  obtain ⟨rfl, rfl, rfl⟩ := trodAll_nil r1
  obtain rfl : args = #[v0, v1] := by cases args; simp_all
  obtain ⟨rfl, rfl⟩ := trodVars_none hV
  obtain ⟨a0, rfl, rfl, rfl, y0⟩ := open_string Try.underlying9 (hval 0 9 v0 rfl rfl) h0
  obtain ⟨a1, rfl, rfl, rfl, y1⟩ := open_string Try.underlying9 (hval 1 9 v1 rfl rfl) h1
  clear hA0 hval0 hsz0
  refine (walk a0 a1 W (gw_shape hsh)).mono fun e W' ⟨he, bel⟩ => ?_
  subst he
  exact ⟨_, rfl, _, _, _, [], _, [], hW', trodAll_mk1 (shut_bool Try.underlying4 _), (trodAll_cons_mk (shut_string Try.underlying9 y0) (trodAll_cons_mk (shut_string Try.underlying9 y1) trodAll_mk0)), rfl, bel.frame _, fun h => by cases h⟩
theorem over : Rows.scanCutRow.holds Try.pinned (OpenSpec.ofChange Rows.scanCutSpec) :=
  OpenClaim.holds_of_wide 8 Try.f8 rfl rfl rfl rfl rfl rfl rfl ⟨rfl, rfl, rfl, rfl, rfl⟩ rfl rfl rfl rfl rfl (by kernel_rfl) Try.func8 (by kernel_rfl)
    (of_decide_eq_true (by kernel_rfl)) (by unfold Func.isWrapper; first | (rw [if_pos (by decide +kernel)]; kernel_rfl) | (rw [if_neg (by decide +kernel)]; exact ⟨rfl, rfl⟩))
    (fun os started H enc _ => lifted os started H enc)
theorem proved : Rows.ScanCutSaid := over
#print axioms proved
end Go.Proofs.Ytblfcmjcdclijaa.scanCut
namespace Go.Proofs.Ytblfcmjcdclijaa
/-- The row, under a short name, for the claim. -/
theorem scanCut_holds : Rows.ScanCutSaid := scanCut.proved
end Go.Proofs.Ytblfcmjcdclijaa
