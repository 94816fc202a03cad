/- Play's law: a tree that wins shows the value: for every input. -/
import Derived.Test.YtikihijfhgbffaaGreatDoorRows
import Derived.Test.YtikihijfhgbffaaGreatDoorCards
import Derived.Test.YtikihijfhgbffaaGreatDoorTie
import Derived.Test.YtikihijfhgbffaaGreatDoorHShelf
import Derived.Test.YtikihijfhgbffaaGreatDoorRQ3
import Derived.Test.YtikihijfhgbffaaGreatDoorRQ2
import Derived.Test.YtikihijfhgbffaaGreatDoorR5
import Derived.Test.YtikihijfhgbffaaGreatDoorR3
import Derived.WalkKit
import Derived.ProofKit
import Derived.OpenShut
import Derived.ShutString
import Derived.ChangeOld
import Derived.Below
import Derived.SizedLaws
import Derived.LaidMore
import Derived.Lay
import Derived.LaidOnce
import Derived.SevenTiedAt
import Derived.Shelf.Vars
import Derived.HandedShaped
set_option linter.unusedVariables false
set_option linter.unusedSimpArgs false
namespace Go.Proofs.YtikihijfhgbffaaGreatDoor.playShows
open Go.ChangeShapes Go.WideShapes Go.ChangeAt Go.RowKit Go.RR
set_option linter.unusedVariables false
set_option maxRecDepth 100000
/-- The library's variable internal/bytealg.MaxLen holds some number. -/
def gw : GW where
 G := fun w => ∃ m, w.cell? ⟨0, 0, none⟩ = some (.int .i64 m)
 B := 1
 st := fun w w' h hg => by
  obtain ⟨m, hm⟩ := hg
  exact ⟨m, by rw [World.cell?_of_block (w := w) (h 0 (by omega))]; exact hm⟩
theorem gw_shape {w : World} (h : w.ShapedOpen Tryz.prog) : gw.G w :=
 Go.Proofs.cell_of_shapedOpen_int (zero := #[.int .i64 0]) (t := 3) h (of_decide_eq_true (by kernel_rfl)) (by kernel_rfl) rfl (by kernel_rfl) (by kernel_rfl) Tryz.underlying3
theorem gw_size {w : World} (h : gw.G w) : gw.B ≤ w.heap.size := by
 obtain ⟨m, hm⟩ := h
 rcases Nat.lt_or_ge 0 w.heap.size with h1 | h1
 ·exact h1
 ·have : w.heap[0]? = none := Array.getElem?_eq_none (by omega)
  simp [World.cell?, this] at hm
theorem clone_ok : mClone Tryz.prog M.n_slices_Clone_sapi_Span_api_Span (.agg [.int .i64 0, .int .i64 0]) 16 = true := by kernel_rfl
theorem shelf : SOK Tryz.prog gw M.C.S := by
 intro f args v h us w M hsz hr hlt hi
 change RR.M.S f args = some v at h
 unfold RR.M.S at h
 split at h
 ·rename_i hf
  subst hf
  exact clone_sound clone_ok h hsz hr hlt hi
 ·split at h
  ·rename_i hf
   subst hf
   split at h <;> try contradiction
   rename_i s t
   split at h <;> try contradiction
   rename_i hs
   cases h
   have e0 := (hr 0 (by simp)).str_inv
   have e1 := (hr 1 (by simp)).str_inv
   obtain ⟨⟨m, hm⟩, _⟩ := hi
   rw [us2 (us := us) (by simpa using hsz), e0, e1]
   refine sok_same hlt ⟨_, Tryz.func116, by kernel_rfl, by kernel_rfl⟩ .int ?_
   exact Tryz.stringslite_Index ⟨s.toArray⟩ ⟨t.toArray⟩ m w (by simpa [ByteArray.size] using hs) hm
  ·split at h
   ·rename_i hf
    subst hf
    split at h <;> try contradiction
    rename_i x y
    split at h <;> try contradiction
    rename_i hc
    cases h
    have e0 := (hr 0 (by simp)).int_inv
    have e1 := (hr 1 (by simp)).int_inv
    rw [us2 (us := us) (by simpa using hsz), e0, e1]
    obtain ⟨hx0, hx1, hy0, hy1⟩ := hc
    obtain ⟨a, rfl⟩ := Int.eq_ofNat_of_zero_le hx0
    obtain ⟨b, rfl⟩ := Int.eq_ofNat_of_zero_le hy0
    have hc := Tryz.bits_Mul64 a b (by omega) (by omega) w
    refine sok_same hlt ⟨_, Tryz.func159, by kernel_rfl, by kernel_rfl⟩ (u := .tuple #[.int .u64 ((a * b / 18446744073709551616 : Nat) : Int), .int .u64 ((a * b % 18446744073709551616 : Nat) : Int)]) ?_ hc
    refine .tup rfl fun i hi => ?_
    rcases (show i = 0 ∨ i = 1 by simp at hi; omega) with rfl | rfl
    ·have : (a : Int) * b / 18446744073709551616 = ((a * b / 18446744073709551616 : Nat) : Int) := by simp
     simp only [List.getElem_cons_zero, this]
     exact .int
    ·have : (a : Int) * b % 18446744073709551616 = ((a * b % 18446744073709551616 : Nat) : Int) := by simp
     simp only [List.getElem_cons_succ, List.getElem_cons_zero, this]
     exact .int
   ·cases h
theorem clone_ok8 : mClone Tryz.prog M.n_slices_Clone_sint_int (.int .i64 0) 8 = true := by kernel_rfl
theorem shelfH : CallOK Tryz.prog gw M.C.H := by
 intro f args h out h' he us w M ν hsz hr hh hi
 change RR.M.H f args h = some (out, h') at he
 unfold RR.M.H at he
 split at he
 ·rename_i hf
  subst hf
  exact sort_ok ⟨_, Tryz.func110, by kernel_rfl, by kernel_rfl⟩ Tryz.slices_Sort_int Tryz.slices_Sort_int_none he hsz hr hh
 ·split at he
  ·rename_i hf
   subst hf
   exact comp_ok ⟨_, Tryz.func111, by kernel_rfl, by kernel_rfl⟩ Tryz.slices_Compact_int Tryz.slices_Compact_int_empty he hsz hr hh
  ·split at he
   ·rename_i hf
    subst hf
    exact cloneE_ok (g := gw) clone_ok8 he hsz hr hh hi
   ·cases he
theorem walk {us : Array Value} {w : World} (x0 : Mod) (x1 : List Nd)  (hsz : us.size = 2) (h0 : Rel w (fun b => b < w.heap.size) nu0 (modV x0) (us.getD 0 undef)) (h1 : Rel w (fun b => b < w.heap.size) nu0 (treeV x1) (us.getD 1 undef))
  (hG : gw.G w) : Calls Tryz.prog 4 us w fun e w' => e = .returned (.bool true) ∧ Below w.heap.size w w' := by
 obtain ⟨k, hk⟩ := acw_law (PL.shows x0 x1 [])
 exact law_true M.T_ok shelf shelfH hk (by simpa using hsz) (fun i hi => by
  rcases (show i = 0 ∨ i = 1 by simp at hi; omega) with rfl | rfl
  ·exact h0
  ·exact h1) hG (gw_size hG)
theorem own : ownKnob Tryz.prog.godebug = none := by kernel_rfl
theorem out : laidOutB Tryz.prog = true := by kernel_rfl
abbrev laidL : List (String × DataW Unit) := [("unicode/utf8.acceptRanges", Rows.laid_unicode_utf8_acceptRanges), ("unicode/utf8.first", Rows.laid_unicode_utf8_first)]
theorem readable : ((Tryz.f4.params.toList).all fun t => Tryz.prog.readableRec t && decide (t < Tryz.prog.types.size)) = true := by kernel_rfl
theorem lifted (os : Os) (started : os.Started) (H : Type) (enc : TypeId × Value → H) :
  ReturnsInHanded {} Tryz.checked os 4 .any (fun w args => (Rows.playShowsSpec.pre enc Tryz.prog Tryz.f4 [] false w args ∧ laidMetH Tryz.prog laidL w) ∧ sizedMet enc Tryz.prog Tryz.f4 (OpenSpec.ofChange Rows.playShowsSpec) false w args)
   (Rows.playShowsSpec.post enc Tryz.prog Tryz.f4 false true false false) := by
 refine returns_laid_shaped (C := Tryz.checked) (X := fun w _ => laidMetH Tryz.prog laidL w) (fun _ _ _ hh h => h.of_heap hh) own started (by kernel_rfl) Tryz.func4
  (ChangeSpec.witness_shaped (enc := enc) (C := Tryz.checked) (os := os) (X := fun w _ => laidMetH Tryz.prog laidL w) false (World.laidAll Tryz.prog os laidL) #[.agg #[.slice none 0 0, .slice none 0 0], .slice none 0 0] 8 (World.laidAll_os _ _ _)
   (World.shaped_of_ZipB (by kernel_rfl) (by kernel_rfl)) (by kernel_rfl) (by kernel_rfl) (by kernel_rfl)
   (by rw [MakeChecks.laidMetH_plain _ _ _ (by kernel_rfl)]; exact laidMet_laidAll _ (by kernel_rfl) (by kernel_rfl))) ?_
 intro W base args ds gs before hval0 hW hX hsh
 have hval : ∀ (j : Nat) t v, Tryz.f4.params[j]? = some t → args[j]? = some v → Value.okWide Tryz.prog W .any base t v := hval0
 have hW' := hW
 obtain ⟨p, q, hA0, hV, rfl, hfz, hnd⟩ := hW
 have hA : DataW.TrodAll enc Tryz.prog W 0 (fun _ => true) true Tryz.f4.params.toList args.toList ds p := hA0
 have hAll := hA
 rw [Tryz.params4] at hA hval
 obtain ⟨v0, vs0, d0, ds0, p0, q0, hargs, rfl, rfl, h0, r0⟩ := trodAll_cons hA
 obtain ⟨v1, vs1, d1, ds1, p1, q1, rfl, rfl, rfl, h1, r1⟩ := trodAll_cons r0
 obtain ⟨rfl, rfl, rfl⟩ := trodAll_nil r1
 obtain rfl : args = #[v0, v1] := by cases args; simp_all
 obtain ⟨rfl, rfl⟩ := trodVars_none hV
 obtain ⟨c0, a0, b0⟩ := open_arg (s := modSh) (by kernel_rfl) (hval 0 _ v0 rfl rfl) h0
 obtain ⟨x0, e0⟩ := has_mod a0
 rw [e0] at b0
 obtain ⟨c1, a1, b1⟩ := open_arg (s := (.sl nodeSh)) (by kernel_rfl) (hval 1 _ v1 rfl rfl) h1
 obtain ⟨x1, rfl, -⟩ := has_tree a1
 refine (walk (us := #[v0, v1]) x0 x1 rfl b0 b1 (gw_shape hsh)).mono fun e W' ⟨he, bel⟩ => ?_
 subst he
 exact ⟨_, rfl, _, _, _, [], _, [], hW', trodAll_mk1 (shut_bool Tryz.underlying4 _), Below.trodAll out bel readable hAll, rfl, bel.frame _, fun h => by cases h⟩
theorem over : Rows.playShowsRow.holds Tryz.pinned (OpenSpec.ofChange Rows.playShowsSpec) :=
 OpenClaim.holds_of_wide 4 Tryz.f4 rfl rfl rfl rfl rfl rfl rfl ⟨rfl, rfl, rfl, rfl, rfl⟩ rfl rfl rfl rfl rfl (by kernel_rfl) Tryz.func4 (by kernel_rfl)
  (of_decide_eq_true (by kernel_rfl)) (by unfold Func.isWrapper; first | (rw [if_pos (by decide +kernel)]; kernel_rfl) | (rw [if_neg (by decide +kernel)]; exact ⟨rfl, rfl⟩))
  (fun os started H enc _ => lifted os started H enc)
theorem card : Claim7.holds Tryz.pinned (.plain (OpenSpec.ofChange Rows.playShowsSpec)) Rows.playShowsCard :=
 Claim7.holds_tied_plain_at .later [] [.data, .pinned] true (true, "7de6c705e630c0d8c8a3022b2ebcdfcebc730148935ada722f7cfc38aaabfbe6") false
  over (fun _ h => by cases h) (by kernel_rfl) (fun _ h => by cases h) playShows_row_tie rfl ⟨rfl, rfl⟩ (by kernel_rfl) rfl
  (fun f fn hf hfn => by
   obtain rfl : f = 4 := Option.some.inj ((show Tryz.prog.funcNamed "stratagem/stratagemlaw20.PlayShows" = some 4 by kernel_rfl).symm.trans hf) |>.symm
   obtain rfl : fn = Tryz.f4 := (Option.some.inj (Tryz.func4.symm.trans hfn)).symm
   exact ⟨by kernel_rfl, fun j t ht => by
    have hm : t ∈ Tryz.f4.params.toList := by simpa using Array.mem_of_getElem? ht
    have hall : ((Tryz.f4.params.toList).all fun u => !Tryz.prog.wantsStandIn u) = true := by kernel_rfl
    exact (show Tryz.prog.wantsStandIn t = false by simpa using List.all_eq_true.1 hall t hm)⟩)
  (by kernel_rfl)
theorem proved : Rows.PlayShowsCardSaid := card
#print axioms proved
end Go.Proofs.YtikihijfhgbffaaGreatDoor.playShows
