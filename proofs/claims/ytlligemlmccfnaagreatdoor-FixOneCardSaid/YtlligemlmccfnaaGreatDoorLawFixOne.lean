/- Fix's law: in whichever order steps are done, the same is left: for every input. -/
import Derived.Test.YtlligemlmccfnaaGreatDoorRows
import Derived.Test.YtlligemlmccfnaaGreatDoorCards
import Derived.Test.YtlligemlmccfnaaGreatDoorTie
import Derived.Test.YtlligemlmccfnaaGreatDoorHS
import Derived.Test.YtlligemlmccfnaaGreatDoorRX3
import Derived.Test.YtlligemlmccfnaaGreatDoorR5
import Derived.Test.YtlligemlmccfnaaGreatDoorR3
import Derived.WalkKit
import Derived.ProofKit
import Derived.OpenShut
import Derived.ShutString
import Derived.ChangeOld
import Derived.Below
import Derived.SizedLaws
import Derived.LaidMore
import Derived.Lay
import Derived.LaidOnce
import Derived.SevenTiedAt
import Derived.Shelf.Vars
import Derived.HandedShaped
set_option linter.unusedVariables false
set_option linter.unusedSimpArgs false
namespace Go.Proofs.YtlligemlmccfnaaGreatDoor.fixOne
open Go.ChangeShapes Go.WideShapes Go.ChangeAt Go.RowKit Go.RR
set_option linter.unusedVariables false
set_option maxRecDepth 100000
/-- The library's table of places is as it was laid. -/
def gw : GW where
 G := TabAt 0 Go.Lib.deBruijn64tab
 B := 1
 st := fun w w' h hg j hj => by rw [World.cell?_of_block (w := w) (h 0 (by omega))]; exact hg j hj
theorem gw_size {w : World} (h : gw.G w) : gw.B ≤ w.heap.size := by
 have hm := h 0 (by decide)
 rcases Nat.lt_or_ge 0 w.heap.size with h1 | h1
 ·exact h1
 ·have : w.heap[0]? = none := Array.getElem?_eq_none (by omega)
  simp [World.cell?, this] at hm
theorem gw_laid {W : World} (h : laidMetH Tryz.prog [("math/bits.deBruijn64tab", Rows.laid_math_bits_deBruijn64tab)] W) : gw.G W := by
 intro r hr
 have hr : r < 64 := hr
 rw [MakeChecks.laidMetH_plain _ _ _ (by kernel_rfl)] at h
 obtain ⟨ps, ⟨g, t, cs, fuel, p, q, hg, ht, hv, hd, _, _⟩, _, _⟩ := h
 obtain rfl := Option.some.inj ((show Tryz.prog.globalNamed "math/bits.deBruijn64tab" = some 0 by kernel_rfl).symm.trans hg)
 obtain rfl := Option.some.inj ((show (Tryz.prog.globals[0]?).map (·.type) = some 180 by kernel_rfl).symm.trans ht)
 obtain ⟨xs, m, _, ex, _, hl, hel⟩ := DataW.trod_array Tryz.underlying180 hd
 have c5 : Tryz.prog.cellsOf 5 = 1 := by kernel_rfl
 have hE := hel r hr
 rw [c5, Nat.mul_one, List.getElem?_eq_getElem (by omega)] at hE
 obtain ⟨z, e1, e2, _⟩ := DataW.trod_int Tryz.underlying5 hE
 have hlen : Go.Lib.deBruijn64tab.length = 64 := by kernel_rfl
 have e3 : (xs.map (·.1)) = Go.Lib.deBruijn64tab.map fun n : Nat => (.lit (.int .u8 n) : DataW Unit) := (DataW.agg.inj (Prod.mk.inj ex).1).symm
 have e4 : (xs.map (·.1))[r]? = (Go.Lib.deBruijn64tab.map fun n : Nat => (DataW.lit (.int .u8 n) : DataW Unit))[r]? := by rw [e3]
 rw [List.getElem?_map, List.getElem?_map, List.getElem?_eq_getElem (by omega : r < xs.length), List.getElem?_eq_getElem (by omega : r < Go.Lib.deBruijn64tab.length), e2] at e4
 have hz : z = (Go.Lib.deBruijn64tab.getD r 0 : Nat) := by
  simp only [Option.map_some, Option.some.injEq, DataW.lit.injEq, Lit.int.injEq, true_and] at e4
  rw [e4, List.getD, List.getElem?_eq_getElem (by omega : r < Go.Lib.deBruijn64tab.length)]; rfl
 rw [World.var?_cell hg hv r, ← hz]
 have : cs.toList[r]? = some (.int .u8 z) := by
  have h0 : ((cs.toList.drop r).take 1)[0]? = some (.int .u8 z) := by rw [e1]; rfl
  simpa using h0
 simpa using this
def tzR : Go.Shelf.Ren := ⟨fun | 29 => 177 | n => n, fun | 22 => 42 | 25 => 124 | 54 => 180 | n => n, fun | 1 => 0 | n => n⟩
theorem tzL : Go.Proofs.Lays7.n29 Tryz.prog tzR := {
 mixed := by kernel_rfl
 f29 := Tryz.func177.trans (congrArg some (by kernel_rfl))
 t0 := Tryz.underlying0
 a0 := Tryz.isAgg0
 z0 := Tryz.sizeOf0
 v0 := Tryz.zeroValue0
 i0 := by kernel_rfl
 t3 := Tryz.underlying3
 a3 := Tryz.isAgg3
 z3 := Tryz.sizeOf3
 v3 := Tryz.zeroValue3
 i3 := by kernel_rfl
 t4 := Tryz.underlying4
 a4 := Tryz.isAgg4
 z4 := Tryz.sizeOf4
 v4 := Tryz.zeroValue4
 i4 := by kernel_rfl
 t5 := Tryz.underlying5
 a5 := Tryz.isAgg5
 z5 := Tryz.sizeOf5
 v5 := Tryz.zeroValue5
 i5 := by kernel_rfl
 t22 := Tryz.underlying42
 a22 := Tryz.isAgg42
 z22 := Tryz.sizeOf42
 v22 := Tryz.zeroValue42
 i22 := by kernel_rfl
 t25 := Tryz.underlying124
 a25 := Tryz.isAgg124
 z25 := Tryz.sizeOf124
 v25 := Tryz.zeroValue124
 i25 := by kernel_rfl
 t54 := Tryz.underlying180
 a54 := Tryz.isAgg180
 z54 := Tryz.sizeOf180
 g1 := by kernel_rfl }
theorem zBy : zzU Tryz.prog M.zas (.int .i64 0) 8 = true := by kernel_rfl
theorem shelf : SOK Tryz.prog gw M.C.S := by
 intro f args v h us w M hsz hr hlt hi
 change RR.M.S f args = some v at h
 unfold RR.M.S at h
 split at h
 ·rename_i hf
  subst hf
  exact zxt zBy h hsz hr hlt hi
 ·split at h
  ·rename_i hf
   subst hf
   split at h <;> try contradiction
   rename_i x
   split at h <;> try contradiction
   rename_i hx
   cases h
   have e0 := (hr 0 (by simp)).int_inv
   obtain ⟨m, rfl⟩ := Int.eq_ofNat_of_zero_le hx.1
   rw [us1 (us := us) (by simpa using hsz), e0, Int.toNat_natCast]
   refine zx2 hlt ⟨_, Tryz.func177, by kernel_rfl, by kernel_rfl⟩ .int ?_
   exact Any7.bits_TrailingZeros64 tzL m (by omega) w fun _ => hi.1
  ·split at h
   ·rename_i hf
    subst hf
    split at h <;> try contradiction
    rename_i x
    split at h <;> try contradiction
    rename_i hx
    cases h
    have e0 := (hr 0 (by simp)).int_inv
    rw [us1 (us := us) (by simpa using hsz), e0]
    refine zx2 hlt ⟨_, Tryz.func155, by kernel_rfl, by kernel_rfl⟩ .int ?_
    exact Tryz.bits_Len64 x w hx.1 (by omega)
   ·cases h
theorem shelf0 : zdV Tryz.prog gw M.C0.H := by
 intro f args h out h' he us w M ν hsz hr hh hi
 change RR.M.HB f args h = some (out, h') at he
 unfold RR.M.HB at he
 split at he
 ·rename_i hf
  subst hf
  exact zDX ⟨_, Tryz.func62, by kernel_rfl, by kernel_rfl⟩ Tryz.slices_Sort_int Tryz.slices_Sort_int_none he hsz hr hh
 ·cases he
theorem shelfH : zdV Tryz.prog gw M.C.H := by
 refine HN_ok (C := M.C0) rfl M.T_ok shelf shelf0 fun f F h => ?_
 unfold M.TN1 at h
 split at h
 ·rename_i e
  subst e
  cases h
  exact M.zh4
 ·cases h
theorem walk {us : Array Value} {w : World} (x0 : List Con) (x1 : FX.Ds) (x2 : List Int) (l0 : x0.length ≤ maxLen) (l1 : x1.length ≤ maxLen) (y1 : ∀ d ∈ x1, d.live < 18446744073709551616) (l2 : x2.length ≤ maxLen) (hsz : us.size = 3) (h0 : Rel w (fun b => b < w.heap.size) nu0 (zaW x0) (us.getD 0 undef)) (h1 : Rel w (fun b => b < w.heap.size) nu0 (FX.dsV x1) (us.getD 1 undef)) (h2 : Rel w (fun b => b < w.heap.size) nu0 (zab x2) (us.getD 2 undef))
  (hG : gw.G w) : Calls Tryz.prog 3 us w fun e w' => e = .returned (.bool true) ∧ Below w.heap.size w w' := by
 obtain ⟨k, hk⟩ := zET (FX.zDE x0 x1 x2 l0 l1 y1 l2 [])
 exact law_true M.T_ok shelf shelfH hk (by simpa using hsz) (fun i hi => by
  rcases (show i = 0 ∨ i = 1 ∨ i = 2 by simp at hi; omega) with rfl | rfl | rfl
  ·exact h0
  ·exact h1
  ·exact h2) hG (gw_size hG)
theorem own : ownKnob Tryz.prog.godebug = none := by kernel_rfl
theorem out : laidOutB Tryz.prog = true := by kernel_rfl
abbrev zBS : List (String × DataW Unit) := [("math/bits.deBruijn64tab", Rows.laid_math_bits_deBruijn64tab)]
theorem readable : ((Tryz.f3.params.toList).all fun t => Tryz.prog.readableRec t && decide (t < Tryz.prog.types.size)) = true := by kernel_rfl
theorem lifted (os : Os) (started : os.Started) (H : Type) (enc : TypeId × Value → H) :
  ReturnsInHanded {} Tryz.checked os 3 .any (fun w args => (Rows.fixOneSpec.pre enc Tryz.prog Tryz.f3 [] false w args ∧ laidMetH Tryz.prog zBS w) ∧ sizedMet enc Tryz.prog Tryz.f3 (OpenSpec.ofChange Rows.fixOneSpec) false w args)
   (Rows.fixOneSpec.post enc Tryz.prog Tryz.f3 false true false false) := by
 refine zpb (C := Tryz.checked) (X := fun w _ => laidMetH Tryz.prog zBS w) (fun _ _ _ hh h => h.of_heap hh) own started (by kernel_rfl) Tryz.func3
  (ChangeSpec.witness_shaped (enc := enc) (C := Tryz.checked) (os := os) (X := fun w _ => laidMetH Tryz.prog zBS w) false (World.laidAll Tryz.prog os zBS) #[.slice none 0 0, .slice none 0 0, .slice none 0 0] 8 (World.laidAll_os _ _ _)
   (World.shaped_of_ZipB (by kernel_rfl) (by kernel_rfl)) (by kernel_rfl) (by kernel_rfl) (by kernel_rfl)
   (by rw [MakeChecks.laidMetH_plain _ _ _ (by kernel_rfl)]; exact laidMet_laidAll _ (by kernel_rfl) (by kernel_rfl))) ?_
 intro W base args ds gs before hval0 hW hX hsh
 have hval : ∀ (j : Nat) t v, Tryz.f3.params[j]? = some t → args[j]? = some v → Value.okWide Tryz.prog W .any base t v := hval0
 have hW' := hW
 obtain ⟨p, q, hA0, hV, rfl, hfz, hnd⟩ := hW
 have hA : DataW.TrodAll enc Tryz.prog W 0 (fun _ => true) true Tryz.f3.params.toList args.toList ds p := hA0
 have hAll := hA
 rw [Tryz.params3] at hA hval
 obtain ⟨v0, vs0, d0, ds0, p0, q0, hargs, rfl, rfl, h0, r0⟩ := trodAll_cons hA
 obtain ⟨v1, vs1, d1, ds1, p1, q1, rfl, rfl, rfl, h1, r1⟩ := trodAll_cons r0
 obtain ⟨v2, vs2, d2, ds2, p2, q2, rfl, rfl, rfl, h2, r2⟩ := trodAll_cons r1
 obtain ⟨rfl, rfl, rfl⟩ := trodAll_nil r2
 obtain rfl : args = #[v0, v1, v2] := by cases args; simp_all
 obtain ⟨rfl, rfl⟩ := trodVars_none hV
 obtain ⟨c0, a0, b0⟩ := zuM (s := (.sl zz8)) (by kernel_rfl) (hval 0 _ v0 rfl rfl) h0
 obtain ⟨x0, rfl, l0⟩ := zBM a0
 obtain ⟨c1, a1, b1⟩ := zuM (s := (.sl FX.zCL)) (by kernel_rfl) (hval 1 _ v1 rfl rfl) h1
 obtain ⟨x1, rfl, l1, y1⟩ := FX.zCr a1
 obtain ⟨c2, a2, b2⟩ := zuM (s := zt6) (by kernel_rfl) (hval 2 _ v2 rfl rfl) h2
 obtain ⟨x2, rfl, l2⟩ := zpJ a2
 refine (walk (us := #[v0, v1, v2]) x0 x1 x2 l0 l1 y1 l2 rfl b0 b1 b2 (gw_laid hX)).mono fun e W' ⟨he, bel⟩ => ?_
 subst he
 exact ⟨_, rfl, _, _, _, [], _, [], hW', trodAll_mk1 (shut_bool Tryz.underlying4 _), Below.trodAll out bel readable hAll, rfl, bel.frame _, fun h => by cases h⟩
theorem over : Rows.fixOneRow.holds Tryz.pinned (OpenSpec.ofChange Rows.fixOneSpec) :=
 OpenClaim.holds_of_wide 3 Tryz.f3 rfl rfl rfl rfl rfl rfl rfl ⟨rfl, rfl, rfl, rfl, rfl⟩ rfl rfl rfl rfl rfl (by kernel_rfl) Tryz.func3 (by kernel_rfl)
  (of_decide_eq_true (by kernel_rfl)) (by unfold Func.isWrapper; first | (rw [if_pos (by decide +kernel)]; kernel_rfl) | (rw [if_neg (by decide +kernel)]; exact ⟨rfl, rfl⟩))
  (fun os started H enc _ => lifted os started H enc)
theorem card : Claim7.holds Tryz.pinned (.plain (OpenSpec.ofChange Rows.fixOneSpec)) Rows.fixOneCard :=
 Claim7.holds_tied_plain_at .later [] [.data] true (true, "6e53db6d4e91136354b8641776bb0ca5ce1b64635aa11adef5a116881f7d7234") false
  over (fun _ h => by cases h) (by kernel_rfl) (fun _ h => by cases h) fixOne_row_tie rfl ⟨rfl, rfl⟩ (by kernel_rfl) rfl
  (fun f fn hf hfn => by
   obtain rfl : f = 3 := Option.some.inj ((show Tryz.prog.funcNamed "stratagem/stratagemlaw17.FixOne" = some 3 by kernel_rfl).symm.trans hf) |>.symm
   obtain rfl : fn = Tryz.f3 := (Option.some.inj (Tryz.func3.symm.trans hfn)).symm
   exact ⟨by kernel_rfl, fun j t ht => by
    have hm : t ∈ Tryz.f3.params.toList := by simpa using Array.mem_of_getElem? ht
    have hall : ((Tryz.f3.params.toList).all fun u => !Tryz.prog.wantsStandIn u) = true := by kernel_rfl
    exact (show Tryz.prog.wantsStandIn t = false by simpa using List.all_eq_true.1 hall t hm)⟩)
  (by kernel_rfl)
theorem proved : Rows.FixOneCardSaid := card
#print axioms proved
end Go.Proofs.YtlligemlmccfnaaGreatDoor.fixOne
