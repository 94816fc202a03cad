/- The model's law on less: without its last constraint a model may be, with another variable's name none may be: for every input. -/
import Derived.Test.YtbcgpomifflijaaDoorRows
import Derived.Test.YtbcgpomifflijaaDoorCards
import Derived.Test.YtbcgpomifflijaaDoorTie
import Derived.Test.YtbcgpomifflijaaDoorHShelf
import Derived.Test.YtbcgpomifflijaaDoorRN
import Derived.Test.YtbcgpomifflijaaDoorR5
import Derived.Test.YtbcgpomifflijaaDoorR3
import Derived.WalkKit
import Derived.ProofKit
import Derived.OpenShut
import Derived.ShutString
import Derived.ChangeOld
import Derived.Below
import Derived.SizedLaws
import Derived.LaidMore
import Derived.Lay
import Derived.LaidOnce
import Derived.SevenTiedAt
import Derived.Shelf.Vars
set_option linter.unusedVariables false
set_option linter.unusedSimpArgs false
namespace Go.Proofs.YtbcgpomifflijaaDoor.lessLaw
open Go.ChangeShapes Go.WideShapes Go.ChangeAt Go.RowKit Go.RR
set_option linter.unusedVariables false
set_option maxRecDepth 100000
/-- The library's variable internal/bytealg.MaxLen holds some number. -/
def gw : GW where
  G := fun w => ∃ m, w.cell? ⟨1, 0, none⟩ = some (.int .i64 m)
  B := 2
  st := fun w w' h hg => by
    obtain ⟨m, hm⟩ := hg
    exact ⟨m, by rw [World.cell?_of_block (w := w) (h 1 (by omega))]; exact hm⟩
theorem gw_shape {w : World} (h : w.ShapedOpen Tryd.prog) : gw.G w :=
  Go.Proofs.cell_of_shapedOpen_int (zero := #[.int .i64 0]) (t := 3) h (of_decide_eq_true (by kernel_rfl)) (by kernel_rfl) rfl (by kernel_rfl) (by kernel_rfl) Tryd.underlying3
theorem gw_size {w : World} (h : gw.G w) : gw.B ≤ w.heap.size := by
  obtain ⟨m, hm⟩ := h
  rcases Nat.lt_or_ge 1 w.heap.size with h1 | h1
  · exact h1
  · have : w.heap[1]? = none := Array.getElem?_eq_none (by omega)
    simp [World.cell?, this] at hm
theorem clone_ok : mClone Tryd.prog M.n_slices_Clone_sapi_Span_api_Span (.agg [.int .i64 0, .int .i64 0]) 16 = true := by kernel_rfl
theorem shelf : SOK Tryd.prog gw M.C.S := by
  intro f args v h us w M hsz hr hlt hi
  change RR.M.S f args = some v at h
  unfold RR.M.S at h
  split at h
  · rename_i hf
    subst hf
    exact clone_sound clone_ok h hsz hr hlt hi
  · split at h
    · rename_i hf
      subst hf
      split at h <;> try contradiction
      rename_i s t
      split at h <;> try contradiction
      rename_i hs
      cases h
      have e0 := (hr 0 (by simp)).str_inv
      have e1 := (hr 1 (by simp)).str_inv
      obtain ⟨⟨m, hm⟩, _⟩ := hi
      rw [us2 (us := us) (by simpa using hsz), e0, e1]
      refine sok_same hlt ⟨_, Tryd.func132, by kernel_rfl, by kernel_rfl⟩ .int ?_
      exact Tryd.stringslite_Index ⟨s.toArray⟩ ⟨t.toArray⟩ m w (by simpa [ByteArray.size] using hs) hm
    · cases h
theorem walk {us : Array Value} {w : World} (x0 : Mod) (x1 : Int) (x2 : Int) (y1 : 0 ≤ x1 ∧ x1 ≤ 255) (y2 : 0 ≤ x2 ∧ x2 ≤ 255) (hsz : us.size = 3) (h0 : Rel w (fun b => b < w.heap.size) nu0 (modV x0) (us.getD 0 undef)) (h1 : Rel w (fun b => b < w.heap.size) nu0 (.int .u8 x1) (us.getD 1 undef)) (h2 : Rel w (fun b => b < w.heap.size) nu0 (.int .u8 x2) (us.getD 2 undef))
    (hG : gw.G w) : Calls Tryd.prog 4 us w fun e w' => e = .returned (.bool true) ∧ Below w.heap.size w w' := by
  obtain ⟨k, hk⟩ := acw_law (M.lessLaw x0 x1 x2 y1 y2 [])
  exact law_true M.T_ok shelf CRok.none hk (by simpa using hsz) (fun i hi => by
    rcases (show i = 0 ∨ i = 1 ∨ i = 2 by simp at hi; omega) with rfl | rfl | rfl
    · exact h0
    · exact h1
    · exact h2) hG (gw_size hG)
theorem own : ownKnob Tryd.prog.godebug = none := by kernel_rfl
theorem out : laidOutB Tryd.prog = true := by kernel_rfl
abbrev laidL : List (String × DataW Unit) := [("unicode/utf8.acceptRanges", Rows.laid_unicode_utf8_acceptRanges), ("unicode/utf8.first", Rows.laid_unicode_utf8_first)]
theorem readable : ((Tryd.f4.params.toList).all fun t => Tryd.prog.readableRec t && decide (t < Tryd.prog.types.size)) = true := by kernel_rfl
theorem lifted (os : Os) (started : os.Started) (H : Type) (enc : TypeId × Value → H) :
    ReturnsInHanded {} Tryd.checked os 4 .any (fun w args => (Rows.modelLessSpec.pre enc Tryd.prog Tryd.f4 [] false w args ∧ laidMetH Tryd.prog laidL w) ∧ sizedMet enc Tryd.prog Tryd.f4 (OpenSpec.ofChange Rows.modelLessSpec) false w args)
      (Rows.modelLessSpec.post enc Tryd.prog Tryd.f4 false true false false) := by
  refine returns_laid_shaped (C := Tryd.checked) (X := fun w _ => laidMetH Tryd.prog laidL w) (fun _ _ _ hh h => h.of_heap hh) own started (by kernel_rfl) Tryd.func4
    (ChangeSpec.witness_shaped (enc := enc) (C := Tryd.checked) (os := os) (X := fun w _ => laidMetH Tryd.prog laidL w) false (World.laidAll Tryd.prog os laidL) #[.agg #[.slice none 0 0, .slice none 0 0], .int .u8 0, .int .u8 0] 8 (World.laidAll_os _ _ _)
      (World.shaped_of_ZipB (by kernel_rfl) (by kernel_rfl)) (by kernel_rfl) (by kernel_rfl) (by kernel_rfl)
      (by rw [MakeChecks.laidMetH_plain _ _ _ (by kernel_rfl)]; exact laidMet_laidAll _ (by kernel_rfl) (by kernel_rfl))) ?_
  intro W base args ds gs before hval0 hW _ hsh
  have hval : ∀ (j : Nat) t v, Tryd.f4.params[j]? = some t → args[j]? = some v → Value.okWide Tryd.prog W .any base t v := hval0
  have hW' := hW
  obtain ⟨p, q, hA0, hV, rfl, hfz, hnd⟩ := hW
  have hA : DataW.TrodAll enc Tryd.prog W 0 (fun _ => true) true Tryd.f4.params.toList args.toList ds p := hA0
  have hAll := hA
  rw [Tryd.params4] at hA hval
  obtain ⟨v0, vs0, d0, ds0, p0, q0, hargs, rfl, rfl, h0, r0⟩ := trodAll_cons hA
  obtain ⟨v1, vs1, d1, ds1, p1, q1, rfl, rfl, rfl, h1, r1⟩ := trodAll_cons r0
  obtain ⟨v2, vs2, d2, ds2, p2, q2, rfl, rfl, rfl, h2, r2⟩ := trodAll_cons r1
  obtain ⟨rfl, rfl, rfl⟩ := trodAll_nil r2
  obtain rfl : args = #[v0, v1, v2] := by cases args; simp_all
  obtain ⟨rfl, rfl⟩ := trodVars_none hV
  obtain ⟨c0, a0, b0⟩ := open_arg (s := modSh) (by kernel_rfl) (hval 0 _ v0 rfl rfl) h0
  obtain ⟨x0, e0⟩ := has_mod a0
  rw [e0] at b0
  obtain ⟨c1, a1, b1⟩ := open_arg (s := .int .u8) (by kernel_rfl) (hval 1 _ v1 rfl rfl) h1
  obtain ⟨x1, rfl, y1⟩ := has_u8 a1
  obtain ⟨c2, a2, b2⟩ := open_arg (s := .int .u8) (by kernel_rfl) (hval 2 _ v2 rfl rfl) h2
  obtain ⟨x2, rfl, y2⟩ := has_u8 a2
  refine (walk (us := #[v0, v1, v2]) x0 x1 x2 y1 y2 rfl b0 b1 b2 (gw_shape hsh)).mono fun e W' ⟨he, bel⟩ => ?_
  subst he
  exact ⟨_, rfl, _, _, _, [], _, [], hW', trodAll_mk1 (shut_bool Tryd.underlying4 _), Below.trodAll out bel readable hAll, rfl, bel.frame _, fun h => by cases h⟩
theorem over : Rows.modelLessRow.holds Tryd.pinned (OpenSpec.ofChange Rows.modelLessSpec) :=
  OpenClaim.holds_of_wide 4 Tryd.f4 rfl rfl rfl rfl rfl rfl rfl ⟨rfl, rfl, rfl, rfl, rfl⟩ rfl rfl rfl rfl rfl (by kernel_rfl) Tryd.func4 (by kernel_rfl)
    (of_decide_eq_true (by kernel_rfl)) (by unfold Func.isWrapper; first | (rw [if_pos (by decide +kernel)]; kernel_rfl) | (rw [if_neg (by decide +kernel)]; exact ⟨rfl, rfl⟩))
    (fun os started H enc _ => lifted os started H enc)
theorem card : Claim7.holds Tryd.pinned (.plain (OpenSpec.ofChange Rows.modelLessSpec)) Rows.modelLessCard :=
  Claim7.holds_tied_plain_at .later [] [.data, .pinned] true (true, "5431dc08922b21b69beffa5d04cf25d66af2bcd696a8a09ce3703691a1846381") false
    over (fun _ h => by cases h) (by kernel_rfl) (fun _ h => by cases h) modelLess_row_tie rfl ⟨rfl, rfl⟩ (by kernel_rfl) rfl
    (fun f fn hf hfn => by
      obtain rfl : f = 4 := Option.some.inj ((show Tryd.prog.funcNamed "stratagem/stratagemlaw08.ModelLess" = some 4 by kernel_rfl).symm.trans hf) |>.symm
      obtain rfl : fn = Tryd.f4 := (Option.some.inj (Tryd.func4.symm.trans hfn)).symm
      exact ⟨by kernel_rfl, fun j t ht => by
        have hm : t ∈ Tryd.f4.params.toList := by simpa using Array.mem_of_getElem? ht
        have hall : ((Tryd.f4.params.toList).all fun u => !Tryd.prog.wantsStandIn u) = true := by kernel_rfl
        exact (show Tryd.prog.wantsStandIn t = false by simpa using List.all_eq_true.1 hall t hm)⟩)
    (by kernel_rfl)
theorem proved : Rows.ModelLessCardSaid := card
#print axioms proved
end Go.Proofs.YtbcgpomifflijaaDoor.lessLaw
