/- The law on domains that are nobody else's: the row. -/
import Derived.Test.YtbcgpomifflijaaDoorRows
import Derived.Test.YtbcgpomifflijaaDoorCards
import Derived.Test.YtbcgpomifflijaaDoorTie
import Derived.Test.YtbcgpomifflijaaDoorHShelf
import Derived.Test.YtbcgpomifflijaaDoorRGo
import Derived.Test.YtbcgpomifflijaaDoorR3
import Derived.WalkKit
import Derived.ProofKit
import Derived.OpenShut
import Derived.ShutString
import Derived.ChangeOld
import Derived.Below
import Derived.SizedLaws
import Derived.LaidMore
import Derived.Lay
import Derived.LaidOnce
import Derived.SevenTiedAt
import Derived.Shelf.Vars
import Derived.HandedShaped
set_option linter.unusedVariables false
set_option linter.unusedSimpArgs false
namespace Go.Proofs.YtbcgpomifflijaaDoor.domOwn
open Go.ChangeShapes Go.WideShapes Go.ChangeAt Go.RowKit Go.RR
set_option linter.unusedVariables false
set_option maxRecDepth 100000
/-- The library's table of places is as it was laid. -/
def gw : GW where
  G := TabAt 0 Go.Lib.deBruijn64tab
  B := 1
  st := fun w w' h hg j hj => by rw [World.cell?_of_block (w := w) (h 0 (by omega))]; exact hg j hj
theorem gw_size {w : World} (h : gw.G w) : gw.B ≤ w.heap.size := by
  have hm := h 0 (by decide)
  rcases Nat.lt_or_ge 0 w.heap.size with h1 | h1
  · exact h1
  · have : w.heap[0]? = none := Array.getElem?_eq_none (by omega)
    simp [World.cell?, this] at hm
theorem gw_laid {W : World} (h : laidMetH Tryd.prog [("math/bits.deBruijn64tab", Rows.laid_math_bits_deBruijn64tab)] W) : gw.G W := by
  intro r hr
  have hr : r < 64 := hr
  rw [MakeChecks.laidMetH_plain _ _ _ (by kernel_rfl)] at h
  obtain ⟨ps, ⟨g, t, cs, fuel, p, q, hg, ht, hv, hd, _, _⟩, _, _⟩ := h
  obtain rfl := Option.some.inj ((show Tryd.prog.globalNamed "math/bits.deBruijn64tab" = some 0 by kernel_rfl).symm.trans hg)
  obtain rfl := Option.some.inj ((show (Tryd.prog.globals[0]?).map (·.type) = some 146 by kernel_rfl).symm.trans ht)
  obtain ⟨xs, m, _, ex, _, hl, hel⟩ := DataW.trod_array Tryd.underlying146 hd
  have c5 : Tryd.prog.cellsOf 5 = 1 := by kernel_rfl
  have hE := hel r hr
  rw [c5, Nat.mul_one, List.getElem?_eq_getElem (by omega)] at hE
  obtain ⟨z, e1, e2, _⟩ := DataW.trod_int Tryd.underlying5 hE
  have hlen : Go.Lib.deBruijn64tab.length = 64 := by kernel_rfl
  have e3 : (xs.map (·.1)) = Go.Lib.deBruijn64tab.map fun n : Nat => (.lit (.int .u8 n) : DataW Unit) := (DataW.agg.inj (Prod.mk.inj ex).1).symm
  have e4 : (xs.map (·.1))[r]? = (Go.Lib.deBruijn64tab.map fun n : Nat => (DataW.lit (.int .u8 n) : DataW Unit))[r]? := by rw [e3]
  rw [List.getElem?_map, List.getElem?_map, List.getElem?_eq_getElem (by omega : r < xs.length), List.getElem?_eq_getElem (by omega : r < Go.Lib.deBruijn64tab.length), e2] at e4
  have hz : z = (Go.Lib.deBruijn64tab.getD r 0 : Nat) := by
    simp only [Option.map_some, Option.some.injEq, DataW.lit.injEq, Lit.int.injEq, true_and] at e4
    rw [e4, List.getD, List.getElem?_eq_getElem (by omega : r < Go.Lib.deBruijn64tab.length)]; rfl
  rw [World.var?_cell hg hv r, ← hz]
  have : cs.toList[r]? = some (.int .u8 z) := by
    have h0 : ((cs.toList.drop r).take 1)[0]? = some (.int .u8 z) := by rw [e1]; rfl
    simpa using h0
  simpa using this
def tzR : Go.Shelf.Ren := ⟨fun | 29 => 119 | n => n, fun | 22 => 50 | 25 => 147 | 54 => 146 | n => n, fun | 1 => 0 | n => n⟩
theorem tzL : Go.Proofs.Lays7.n29 Tryd.prog tzR := {
  mixed := by kernel_rfl
  f29 := Tryd.func119.trans (congrArg some (by kernel_rfl))
  t0 := Tryd.underlying0
  a0 := Tryd.isAgg0
  z0 := Tryd.sizeOf0
  v0 := Tryd.zeroValue0
  i0 := by kernel_rfl
  t3 := Tryd.underlying3
  a3 := Tryd.isAgg3
  z3 := Tryd.sizeOf3
  v3 := Tryd.zeroValue3
  i3 := by kernel_rfl
  t4 := Tryd.underlying4
  a4 := Tryd.isAgg4
  z4 := Tryd.sizeOf4
  v4 := Tryd.zeroValue4
  i4 := by kernel_rfl
  t5 := Tryd.underlying5
  a5 := Tryd.isAgg5
  z5 := Tryd.sizeOf5
  v5 := Tryd.zeroValue5
  i5 := by kernel_rfl
  t22 := Tryd.underlying50
  a22 := Tryd.isAgg50
  z22 := Tryd.sizeOf50
  v22 := Tryd.zeroValue50
  i22 := by kernel_rfl
  t25 := Tryd.underlying147
  a25 := Tryd.isAgg147
  z25 := Tryd.sizeOf147
  v25 := Tryd.zeroValue147
  i25 := by kernel_rfl
  t54 := Tryd.underlying146
  a54 := Tryd.isAgg146
  z54 := Tryd.sizeOf146
  g1 := by kernel_rfl }
theorem clone_ok : mClone Tryd.prog M.n_slices_Clone_sint_int (.int .i64 0) 8 = true := by kernel_rfl
theorem shelf : SOK Tryd.prog gw M.C.S := by
  intro f args v h us w M hsz hr hlt hi
  change RR.M.S f args = some v at h
  unfold RR.M.S at h
  split at h
  · rename_i hf
    subst hf
    exact clone_sound clone_ok h hsz hr hlt hi
  · split at h
    · rename_i hf
      subst hf
      split at h <;> try contradiction
      rename_i x
      split at h <;> try contradiction
      rename_i hx
      cases h
      have e0 := (hr 0 (by simp)).int_inv
      obtain ⟨m, rfl⟩ := Int.eq_ofNat_of_zero_le hx.1
      rw [us1 (us := us) (by simpa using hsz), e0, Int.toNat_natCast]
      refine sok_same hlt ⟨_, Tryd.func119, by kernel_rfl, by kernel_rfl⟩ .int ?_
      exact Any7.bits_TrailingZeros64 tzL m (by omega) w fun _ => hi.1
    · split at h
      · rename_i hf
        subst hf
        split at h <;> try contradiction
        rename_i x
        split at h <;> try contradiction
        rename_i hx
        cases h
        have e0 := (hr 0 (by simp)).int_inv
        rw [us1 (us := us) (by simpa using hsz), e0]
        refine sok_same hlt ⟨_, Tryd.func138, by kernel_rfl, by kernel_rfl⟩ .int ?_
        exact Tryd.bits_Len64 x w hx.1 (by omega)
      · cases h
theorem shelfH : CallOK Tryd.prog gw M.C.H := by
  intro f args h out h' he us w M ν hsz hr hh hi
  change RR.M.H f args h = some (out, h') at he
  unfold RR.M.H at he
  split at he
  · rename_i hf
    subst hf
    exact sort_ok ⟨_, Tryd.func141, by kernel_rfl, by kernel_rfl⟩ Tryd.slices_Sort_int Tryd.slices_Sort_int_none he hsz hr hh
  · split at he
    · rename_i hf
      subst hf
      exact cloneH_ok (g := gw) clone_ok he hsz hr hh hi
    · cases he
theorem walk {us : Array Value} {w : World} (x0 : Dm) (x1 : Int) (y0 : x0.live < 18446744073709551616) (y1 : I64 x1) (hsz : us.size = 2) (h0 : Rel w (fun b => b < w.heap.size) nu0 (domV x0) (us.getD 0 undef)) (h1 : Rel w (fun b => b < w.heap.size) nu0 (.int .i64 x1) (us.getD 1 undef))
    (hG : gw.G w) : Calls Tryd.prog 8 us w fun e w' => e = .returned (.bool true) ∧ Below w.heap.size w w' := by
  obtain ⟨k, hk⟩ := acw_law (M.ownD x0 x1 y0 [])
  exact law_true M.T_ok shelf shelfH hk (by simpa using hsz) (fun i hi => by
    rcases (show i = 0 ∨ i = 1 by simp at hi; omega) with rfl | rfl
    · exact h0
    · exact h1) hG (gw_size hG)
theorem own : ownKnob Tryd.prog.godebug = none := by kernel_rfl
theorem out : laidOutB Tryd.prog = true := by kernel_rfl
abbrev laidL : List (String × DataW Unit) := [("math/bits.deBruijn64tab", Rows.laid_math_bits_deBruijn64tab)]
theorem readable : ((Tryd.f8.params.toList).all fun t => Tryd.prog.readableRec t && decide (t < Tryd.prog.types.size)) = true := by kernel_rfl
theorem lifted (os : Os) (started : os.Started) (H : Type) (enc : TypeId × Value → H) :
    ReturnsInHanded {} Tryd.checked os 8 .any (fun w args => (Rows.domOwnSpec.pre enc Tryd.prog Tryd.f8 [] false w args ∧ laidMetH Tryd.prog laidL w) ∧ sizedMet enc Tryd.prog Tryd.f8 (OpenSpec.ofChange Rows.domOwnSpec) false w args)
      (Rows.domOwnSpec.post enc Tryd.prog Tryd.f8 false true false false) := by
  refine returns_laid_shaped (C := Tryd.checked) (X := fun w _ => laidMetH Tryd.prog laidL w) (fun _ _ _ hh h => h.of_heap hh) own started (by kernel_rfl) Tryd.func8
    (ChangeSpec.witness_shaped (enc := enc) (C := Tryd.checked) (os := os) (X := fun w _ => laidMetH Tryd.prog laidL w) false (World.laidAll Tryd.prog os laidL) #[.agg #[.slice none 0 0, .int .u64 0], .int .i64 0] 8 (World.laidAll_os _ _ _)
      (World.shaped_of_ZipB (by kernel_rfl) (by kernel_rfl)) (by kernel_rfl) (by kernel_rfl) (by kernel_rfl)
      (by rw [MakeChecks.laidMetH_plain _ _ _ (by kernel_rfl)]; exact laidMet_laidAll _ (by kernel_rfl) (by kernel_rfl))) ?_
  intro W base args ds gs before hval0 hW hX hsh
  have hval : ∀ (j : Nat) t v, Tryd.f8.params[j]? = some t → args[j]? = some v → Value.okWide Tryd.prog W .any base t v := hval0
  have hW' := hW
  obtain ⟨p, q, hA0, hV, rfl, hfz, hnd⟩ := hW
  have hA : DataW.TrodAll enc Tryd.prog W 0 (fun _ => true) true Tryd.f8.params.toList args.toList ds p := hA0
  have hAll := hA
  rw [Tryd.params8] at hA hval
  obtain ⟨v0, vs0, d0, ds0, p0, q0, hargs, rfl, rfl, h0, r0⟩ := trodAll_cons hA
  obtain ⟨v1, vs1, d1, ds1, p1, q1, rfl, rfl, rfl, h1, r1⟩ := trodAll_cons r0
  obtain ⟨rfl, rfl, rfl⟩ := trodAll_nil r1
  obtain rfl : args = #[v0, v1] := by cases args; simp_all
  obtain ⟨rfl, rfl⟩ := trodVars_none hV
  obtain ⟨c0, a0, b0⟩ := open_arg (s := domSh) (by kernel_rfl) (hval 0 _ v0 rfl rfl) h0
  obtain ⟨x0, e0, y0⟩ := has_dom a0
  rw [e0] at b0
  obtain ⟨c1, a1, b1⟩ := open_arg (s := .int .i64) (by kernel_rfl) (hval 1 _ v1 rfl rfl) h1
  obtain ⟨x1, rfl, y1⟩ := has_int a1
  refine (walk (us := #[v0, v1]) x0 x1 y0 y1 rfl b0 b1 (gw_laid hX)).mono fun e W' ⟨he, bel⟩ => ?_
  subst he
  exact ⟨_, rfl, _, _, _, [], _, [], hW', trodAll_mk1 (shut_bool Tryd.underlying4 _), Below.trodAll out bel readable hAll, rfl, bel.frame _, fun h => by cases h⟩
theorem over : Rows.domOwnRow.holds Tryd.pinned (OpenSpec.ofChange Rows.domOwnSpec) :=
  OpenClaim.holds_of_wide 8 Tryd.f8 rfl rfl rfl rfl rfl rfl rfl ⟨rfl, rfl, rfl, rfl, rfl⟩ rfl rfl rfl rfl rfl (by kernel_rfl) Tryd.func8 (by kernel_rfl)
    (of_decide_eq_true (by kernel_rfl)) (by unfold Func.isWrapper; first | (rw [if_pos (by decide +kernel)]; kernel_rfl) | (rw [if_neg (by decide +kernel)]; exact ⟨rfl, rfl⟩))
    (fun os started H enc _ => lifted os started H enc)
theorem card : Claim7.holds Tryd.pinned (.plain (OpenSpec.ofChange Rows.domOwnSpec)) Rows.domOwnCard :=
  Claim7.holds_tied_plain_at .later [] [.data] true (true, "5431dc08922b21b69beffa5d04cf25d66af2bcd696a8a09ce3703691a1846381") false
    over (fun _ h => by cases h) (by kernel_rfl) (fun _ h => by cases h) domOwn_row_tie rfl ⟨rfl, rfl⟩ (by kernel_rfl) rfl
    (fun f fn hf hfn => by
      obtain rfl : f = 8 := Option.some.inj ((show Tryd.prog.funcNamed "stratagem/stratagemlaw04.DomOwn" = some 8 by kernel_rfl).symm.trans hf) |>.symm
      obtain rfl : fn = Tryd.f8 := (Option.some.inj (Tryd.func8.symm.trans hfn)).symm
      exact ⟨by kernel_rfl, fun j t ht => by
        have hm : t ∈ Tryd.f8.params.toList := by simpa using Array.mem_of_getElem? ht
        have hall : ((Tryd.f8.params.toList).all fun u => !Tryd.prog.wantsStandIn u) = true := by kernel_rfl
        exact (show Tryd.prog.wantsStandIn t = false by simpa using List.all_eq_true.1 hall t hm)⟩)
    (by kernel_rfl)
theorem proved : Rows.DomOwnCardSaid := card
#print axioms proved
end Go.Proofs.YtbcgpomifflijaaDoor.domOwn
