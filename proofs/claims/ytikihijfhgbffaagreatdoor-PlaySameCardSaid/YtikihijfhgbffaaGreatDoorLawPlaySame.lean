/- Play's law: trees that are the same win alike: for every input. -/
import Derived.Test.YtikihijfhgbffaaGreatDoorRows
import Derived.Test.YtikihijfhgbffaaGreatDoorCards
import Derived.Test.YtikihijfhgbffaaGreatDoorTie
import Derived.Test.YtikihijfhgbffaaGreatDoorHS
import Derived.Test.YtikihijfhgbffaaGreatDoorHX
import Derived.Test.YtikihijfhgbffaaGreatDoorRQ3
import Derived.Test.YtikihijfhgbffaaGreatDoorRQ2
import Derived.Test.YtikihijfhgbffaaGreatDoorR5
import Derived.Test.YtikihijfhgbffaaGreatDoorR3
import Derived.WalkKit
import Derived.ProofKit
import Derived.OpenShut
import Derived.ShutString
import Derived.ChangeOld
import Derived.Below
import Derived.SizedLaws
import Derived.LaidMore
import Derived.Lay
import Derived.LaidOnce
import Derived.SevenTiedAt
import Derived.Shelf.Vars
import Derived.HandedShaped
set_option linter.unusedVariables false
set_option linter.unusedSimpArgs false
namespace Go.Proofs.YtikihijfhgbffaaGreatDoor.playSame
open Go.ChangeShapes Go.WideShapes Go.ChangeAt Go.RowKit Go.RR
set_option linter.unusedVariables false
set_option maxRecDepth 100000
/-- The library's variable internal/bytealg.MaxLen holds some number, and its table of tens is as it was laid. -/
def gw : GW where
 G := fun w => (∃ m, w.cell? ⟨0, 0, none⟩ = some (.int .i64 m)) ∧ treeText.G w
 B := 4
 st := fun w w' h hg => by
  have hn : Tryz.prog.globalNamed "internal/strconv.uint64pow10" = some 3 := by kernel_rfl
  obtain ⟨⟨m, hm⟩, ht⟩ := hg
  refine ⟨⟨m, by rw [World.cell?_of_block (w := w) (h 0 (by omega))]; exact hm⟩, ?_⟩
  unfold treeText.G Lib.TabIs World.var? at ht ⊢
  rw [hn] at ht ⊢
  simp only [Option.bind_eq_bind, Option.bind_some] at ht ⊢
  rw [h 3 (by omega)]
  exact ht
theorem gw_shape {w : World} (h : w.ShapedOpen Tryz.prog) : ∃ m, w.cell? ⟨0, 0, none⟩ = some (.int .i64 m) :=
 Go.Proofs.cell_of_shapedOpen_int (zero := #[.int .i64 0]) (t := 3) h (of_decide_eq_true (by kernel_rfl)) (by kernel_rfl) rfl (by kernel_rfl) (by kernel_rfl) Tryz.underlying3
theorem gw_size {w : World} (h : gw.G w) : gw.B ≤ w.heap.size := by
 have hn : Tryz.prog.globalNamed "internal/strconv.uint64pow10" = some 3 := by kernel_rfl
 have h : treeText.G w := h.2
 have hm := Lib.TabIs.cell h hn 0 (by rw [Lib.pow10Tab_length]; decide)
 rcases Nat.lt_or_ge 3 w.heap.size with h1 | h1
 ·exact h1
 ·have : w.heap[3]? = none := Array.getElem?_eq_none (by omega)
  simp [World.cell?, this] at hm
theorem gw_laid {W : World} (h : laidMetH Tryz.prog [("math/bits.deBruijn32tab", Rows.laid_math_bits_deBruijn32tab), ("math/bits.deBruijn64tab", Rows.laid_math_bits_deBruijn64tab), ("internal/strconv.uint64pow10", Rows.laid_internal_strconv_uint64pow10), ("unicode/utf8.acceptRanges", Rows.laid_unicode_utf8_acceptRanges), ("unicode/utf8.first", Rows.laid_unicode_utf8_first)] W) (hs : W.ShapedOpen Tryz.prog) : gw.G W := by
 refine ⟨gw_shape hs, ?_⟩
 rw [MakeChecks.laidMetH_plain _ _ _ (by kernel_rfl)] at h
 obtain ⟨ps, ⟨_, _, _, _, _, _, _, _, _, _, ⟨_, _, _, _, _, _, _, _, _, _, ⟨g, t, cs, fuel, p, q, hg, ht, hv, hd, _, _⟩, _⟩, _⟩, _, _⟩ := h
 obtain rfl := Option.some.inj ((show Tryz.prog.globalNamed "internal/strconv.uint64pow10" = some 3 by kernel_rfl).symm.trans hg)
 obtain rfl := Option.some.inj ((show (Tryz.prog.globals[3]?).map (·.type) = some 198 by kernel_rfl).symm.trans ht)
 have hd' : DataW.trod _ _ _ _ _ _ _ 198 cs.toList = some (Lib.tabData .u64 Lib.pow10Tab, p) := hd
 have e := Lib.cells_of_tab Tryz.underlying198 Tryz.underlying170 (by kernel_rfl) (by kernel_rfl) hd'
 show Lib.TabIs Tryz.prog W "internal/strconv.uint64pow10" .u64 Lib.pow10Tab
 unfold Lib.TabIs
 rw [hv, ← e]
/-- an answer that leaves what was as it was -/
theorem sok_below {f : Nat} {us : Array Value} {w : World} {M : Nat → Prop} {v : V} {u : Value} (hlt : ∀ b, M b → b < w.heap.size) (hf : IsFn Tryz.prog f) (hv : ∀ w', Rel w' M nu0 v u) (hc : Calls Tryz.prog f us w fun e w' => e = .returned u ∧ Below w.heap.size w w') :
  IsFn Tryz.prog f ∧ Calls Tryz.prog f us w fun e w' => ∃ u M', e = .returned u ∧ Rel w' M' nu0 v u ∧ (∀ b, M b → M' b) ∧ (∀ b, M' b → M b ∨ w.heap.size ≤ b) ∧ (∀ b, M' b → b < w'.heap.size) ∧ Stp w w' (fun _ => False) :=
 ⟨hf, hc.mono fun e w' ⟨h1, h2⟩ => ⟨u, M, h1, hv w', fun _ hb => hb, fun _ hb => .inl hb, fun b hb => Nat.lt_of_lt_of_le (hlt b hb) h2.size, ⟨h2.os, h2.tape, h2.output, h2.size, fun k hk _ => h2.block k hk⟩⟩⟩
theorem ints_inv : ∀ {xs : List V} {l : List Int}, ints xs = some l → xs = l.map (V.int .i64)
 | [], l, h => by cases h; rfl
 | x :: r, l, h => by
  unfold ints at h
  split at h <;> try contradiction
  rename_i n r' e
  cases e
  cases hr : ints r with
  | none => rw [hr] at h; cases h
  | some q =>
   rw [hr] at h
   cases h
   rw [ints_inv hr]
   rfl
theorem clone_ok : mClone Tryz.prog M.n_slices_Clone_sapi_Span_api_Span (.agg [.int .i64 0, .int .i64 0]) 16 = true := by kernel_rfl
theorem shelf : SOK Tryz.prog gw M.C.S := by
 intro f args v h us w M hsz hr hlt hi
 change RR.M.S f args = some v at h
 unfold RR.M.S at h
 split at h
 ·rename_i hf
  subst hf
  exact clone_sound clone_ok h hsz hr hlt hi
 ·split at h
  ·rename_i hf
   subst hf
   split at h <;> try contradiction
   rename_i s t
   split at h <;> try contradiction
   rename_i hs
   cases h
   have e0 := (hr 0 (by simp)).str_inv
   have e1 := (hr 1 (by simp)).str_inv
   obtain ⟨⟨⟨m, hm⟩, _⟩, _⟩ := hi
   rw [us2 (us := us) (by simpa using hsz), e0, e1]
   refine sok_same hlt ⟨_, Tryz.func116, by kernel_rfl, by kernel_rfl⟩ .int ?_
   exact Tryz.stringslite_Index ⟨s.toArray⟩ ⟨t.toArray⟩ m w (by simpa [ByteArray.size] using hs) hm
  ·split at h
   ·rename_i hf
    subst hf
    split at h <;> try contradiction
    rename_i x y
    split at h <;> try contradiction
    rename_i hc
    cases h
    have e0 := (hr 0 (by simp)).int_inv
    have e1 := (hr 1 (by simp)).int_inv
    rw [us2 (us := us) (by simpa using hsz), e0, e1]
    obtain ⟨hx0, hx1, hy0, hy1⟩ := hc
    obtain ⟨a, rfl⟩ := Int.eq_ofNat_of_zero_le hx0
    obtain ⟨b, rfl⟩ := Int.eq_ofNat_of_zero_le hy0
    have hc := Tryz.bits_Mul64 a b (by omega) (by omega) w
    refine sok_same hlt ⟨_, Tryz.func159, by kernel_rfl, by kernel_rfl⟩ (u := .tuple #[.int .u64 ((a * b / 18446744073709551616 : Nat) : Int), .int .u64 ((a * b % 18446744073709551616 : Nat) : Int)]) ?_ hc
    refine .tup rfl fun i hi => ?_
    rcases (show i = 0 ∨ i = 1 by simp at hi; omega) with rfl | rfl
    ·have : (a : Int) * b / 18446744073709551616 = ((a * b / 18446744073709551616 : Nat) : Int) := by simp
     simp only [List.getElem_cons_zero, this]
     exact .int
    ·have : (a : Int) * b % 18446744073709551616 = ((a * b % 18446744073709551616 : Nat) : Int) := by simp
     simp only [List.getElem_cons_succ, List.getElem_cons_zero, this]
     exact .int
   ·split at h
    ·rename_i hf
     subst hf
     unfold s_text at h
     split at h <;> try contradiction
     rename_i k p xs
     split at h <;> try contradiction
     rename_i l hl
     split at h <;> try contradiction
     rename_i hc
     cases h
     simp only [Bool.and_eq_true, List.all_eq_true, i64B, decide_eq_true_eq] at hc
     obtain ⟨⟨⟨hk, hp⟩, hks⟩, hn⟩ := hc
     have hx := ints_inv hl
     subst hx
     have h0 := hr 0 (by simp)
     simp only [List.getElem_cons_zero] at h0
     obtain ⟨vs, e0, hvs, -, hv⟩ := h0.agg_inv
     have v0 := (hv 0 (by simp)).int_inv
     have v1 := (hv 1 (by simp)).int_inv
     have v2 := hv 2 (by simp)
     simp only [List.getElem_cons_succ, List.getElem_cons_zero] at v2
     have evs : vs = #[.int .i64 k, .int .i64 p, vs.getD 2 undef] := by
      apply Array.ext
      ·simpa using hvs
      ·intro i h1 h2
       have h3 : i = 0 ∨ i = 1 ∨ i = 2 := by simp at h2; omega
       rcases h3 with rfl | rfl | rfl
       ·rw [← v0]; simp [Array.getD, h1]
       ·rw [← v1]; simp [Array.getD, h1]
       ·simp [Array.getD, h1]
     rw [us1 (us := us) (by simpa using hsz), e0, evs]
     generalize vs.getD 2 undef = sv at v2 ⊢
     refine sok_below hlt ⟨_, Tryz.func91, by kernel_rfl, by kernel_rfl⟩ (fun _ => .str) ?_
     have key : ∃ A c, sv = .slice A l.length c ∧ (∀ j (hj : j < l.length), ∃ ad : Addr, A = some ad ∧ ad.block < w.heap.size ∧ w.cell? (ad.add j) = some (.int .i64 l[j])) ∧ l.length ≤ c := by
      cases hll : l with
      | nil =>
       subst hll
       cases v2 with
       | sl0 => exact ⟨_, _, rfl, fun j hj => by simp at hj, by simp⟩
       | sl rd hc hM hz h h1 hs hm => exact ⟨_, _, rfl, fun j hj => by simp at hj, by simp⟩
      | cons x r =>
       rw [← hll]
       generalize hX : l.map (V.int .i64) = X at v2
       have hXl : X.length = l.length := by rw [← hX, List.length_map]
       cases v2 with
       | sl0 => rw [hll] at hX; simp at hX
       | @sl _ _ b o c _ rd hc hM hz h h1 hs hm =>
        rw [hXl]
        refine ⟨_, _, rfl, fun j hj => ⟨_, rfl, hlt b hM, ?_⟩, by omega⟩
        have e := hm j (by omega) 0 (by omega)
        have r := h j (by omega)
        have ex : X[j]'(by omega) = .int .i64 l[j] := by simp [← hX]
        rw [ex] at r
        rw [r.int_inv] at e
        by_cases hj0 : j = 0
        ·subst hj0
         simpa [Addr.add, Value.cells] using e
        ·simpa [Addr.add, Value.cells, hj0] using e
     obtain ⟨A, c, rfl, k1, k2⟩ := key
     exact treeText.text_walk k p l hk hp hks hn A c w hi.1.2 (gw_size hi.1) k1 k2
    ·cases h
theorem clone_ok8 : mClone Tryz.prog M.n_slices_Clone_sint_int (.int .i64 0) 8 = true := by kernel_rfl
theorem shelfH : CallOK Tryz.prog gw M.C.H := by
 intro f args h out h' he us w M ν hsz hr hh hi
 change RR.M.H f args h = some (out, h') at he
 unfold RR.M.H at he
 split at he
 ·rename_i hf
  subst hf
  exact sort_ok ⟨_, Tryz.func110, by kernel_rfl, by kernel_rfl⟩ Tryz.slices_Sort_int Tryz.slices_Sort_int_none he hsz hr hh
 ·split at he
  ·rename_i hf
   subst hf
   exact comp_ok ⟨_, Tryz.func111, by kernel_rfl, by kernel_rfl⟩ Tryz.slices_Compact_int Tryz.slices_Compact_int_empty he hsz hr hh
  ·split at he
   ·rename_i hf
    subst hf
    exact cloneE_ok (g := gw) clone_ok8 he hsz hr hh hi
   ·cases he
theorem walk {us : Array Value} {w : World} (x0 : Mod) (x1 : List Nd) (x2 : Bool)  (hsz : us.size = 3) (h0 : Rel w (fun b => b < w.heap.size) nu0 (modV x0) (us.getD 0 undef)) (h1 : Rel w (fun b => b < w.heap.size) nu0 (treeV x1) (us.getD 1 undef)) (h2 : Rel w (fun b => b < w.heap.size) nu0 (.bool x2) (us.getD 2 undef))
  (hG : gw.G w) : Calls Tryz.prog 6 us w fun e w' => e = .returned (.bool true) ∧ Below w.heap.size w w' := by
 obtain ⟨k, hk⟩ := acw_law (PL.same x0 x1 x2 [])
 exact law_true M.T_ok shelf shelfH hk (by simpa using hsz) (fun i hi => by
  rcases (show i = 0 ∨ i = 1 ∨ i = 2 by simp at hi; omega) with rfl | rfl | rfl
  ·exact h0
  ·exact h1
  ·exact h2) hG (gw_size hG)
theorem own : ownKnob Tryz.prog.godebug = none := by kernel_rfl
theorem out : laidOutB Tryz.prog = true := by kernel_rfl
abbrev laidL : List (String × DataW Unit) := [("math/bits.deBruijn32tab", Rows.laid_math_bits_deBruijn32tab), ("math/bits.deBruijn64tab", Rows.laid_math_bits_deBruijn64tab), ("internal/strconv.uint64pow10", Rows.laid_internal_strconv_uint64pow10), ("unicode/utf8.acceptRanges", Rows.laid_unicode_utf8_acceptRanges), ("unicode/utf8.first", Rows.laid_unicode_utf8_first)]
theorem readable : ((Tryz.f6.params.toList).all fun t => Tryz.prog.readableRec t && decide (t < Tryz.prog.types.size)) = true := by kernel_rfl
theorem lifted (os : Os) (started : os.Started) (H : Type) (enc : TypeId × Value → H) :
  ReturnsInHanded {} Tryz.checked os 6 .any (fun w args => (Rows.playSameSpec.pre enc Tryz.prog Tryz.f6 [] false w args ∧ laidMetH Tryz.prog laidL w) ∧ sizedMet enc Tryz.prog Tryz.f6 (OpenSpec.ofChange Rows.playSameSpec) false w args)
   (Rows.playSameSpec.post enc Tryz.prog Tryz.f6 false true false false) := by
 refine returns_laid_shaped (C := Tryz.checked) (X := fun w _ => laidMetH Tryz.prog laidL w) (fun _ _ _ hh h => h.of_heap hh) own started (by kernel_rfl) Tryz.func6
  (ChangeSpec.witness_shaped (enc := enc) (C := Tryz.checked) (os := os) (X := fun w _ => laidMetH Tryz.prog laidL w) false (World.laidAll Tryz.prog os laidL) #[.agg #[.slice none 0 0, .slice none 0 0], .slice none 0 0, .bool false] 8 (World.laidAll_os _ _ _)
   (World.shaped_of_ZipB (by kernel_rfl) (by kernel_rfl)) (by kernel_rfl) (by kernel_rfl) (by kernel_rfl)
   (by rw [MakeChecks.laidMetH_plain _ _ _ (by kernel_rfl)]; exact laidMet_laidAll _ (by kernel_rfl) (by kernel_rfl))) ?_
 intro W base args ds gs before hval0 hW hX hsh
 have hval : ∀ (j : Nat) t v, Tryz.f6.params[j]? = some t → args[j]? = some v → Value.okWide Tryz.prog W .any base t v := hval0
 have hW' := hW
 obtain ⟨p, q, hA0, hV, rfl, hfz, hnd⟩ := hW
 have hA : DataW.TrodAll enc Tryz.prog W 0 (fun _ => true) true Tryz.f6.params.toList args.toList ds p := hA0
 have hAll := hA
 rw [Tryz.params6] at hA hval
 obtain ⟨v0, vs0, d0, ds0, p0, q0, hargs, rfl, rfl, h0, r0⟩ := trodAll_cons hA
 obtain ⟨v1, vs1, d1, ds1, p1, q1, rfl, rfl, rfl, h1, r1⟩ := trodAll_cons r0
 obtain ⟨v2, vs2, d2, ds2, p2, q2, rfl, rfl, rfl, h2, r2⟩ := trodAll_cons r1
 obtain ⟨rfl, rfl, rfl⟩ := trodAll_nil r2
 obtain rfl : args = #[v0, v1, v2] := by cases args; simp_all
 obtain ⟨rfl, rfl⟩ := trodVars_none hV
 obtain ⟨c0, a0, b0⟩ := open_arg (s := modSh) (by kernel_rfl) (hval 0 _ v0 rfl rfl) h0
 obtain ⟨x0, e0⟩ := has_mod a0
 rw [e0] at b0
 obtain ⟨c1, a1, b1⟩ := open_arg (s := (.sl nodeSh)) (by kernel_rfl) (hval 1 _ v1 rfl rfl) h1
 obtain ⟨x1, rfl, -⟩ := has_tree a1
 obtain ⟨c2, a2, b2⟩ := open_arg (s := .bool) (by kernel_rfl) (hval 2 _ v2 rfl rfl) h2
 obtain ⟨x2, rfl⟩ := a2
 refine (walk (us := #[v0, v1, v2]) x0 x1 x2 rfl b0 b1 b2 (gw_laid hX hsh)).mono fun e W' ⟨he, bel⟩ => ?_
 subst he
 exact ⟨_, rfl, _, _, _, [], _, [], hW', trodAll_mk1 (shut_bool Tryz.underlying4 _), Below.trodAll out bel readable hAll, rfl, bel.frame _, fun h => by cases h⟩
theorem over : Rows.playSameRow.holds Tryz.pinned (OpenSpec.ofChange Rows.playSameSpec) :=
 OpenClaim.holds_of_wide 6 Tryz.f6 rfl rfl rfl rfl rfl rfl rfl ⟨rfl, rfl, rfl, rfl, rfl⟩ rfl rfl rfl rfl rfl (by kernel_rfl) Tryz.func6 (by kernel_rfl)
  (of_decide_eq_true (by kernel_rfl)) (by unfold Func.isWrapper; first | (rw [if_pos (by decide +kernel)]; kernel_rfl) | (rw [if_neg (by decide +kernel)]; exact ⟨rfl, rfl⟩))
  (fun os started H enc _ => lifted os started H enc)
theorem card : Claim7.holds Tryz.pinned (.plain (OpenSpec.ofChange Rows.playSameSpec)) Rows.playSameCard :=
 Claim7.holds_tied_plain_at .later [] [.data,.data,.data,.data,.pinned] true (true, "7de6c705e630c0d8c8a3022b2ebcdfcebc730148935ada722f7cfc38aaabfbe6") false
  over (fun _ h => by cases h) (by kernel_rfl) (fun _ h => by cases h) playSame_row_tie rfl ⟨rfl, rfl⟩ (by kernel_rfl) rfl
  (fun f fn hf hfn => by
   obtain rfl : f = 6 := Option.some.inj ((show Tryz.prog.funcNamed "stratagem/stratagemlaw20.PlaySame" = some 6 by kernel_rfl).symm.trans hf) |>.symm
   obtain rfl : fn = Tryz.f6 := (Option.some.inj (Tryz.func6.symm.trans hfn)).symm
   exact ⟨by kernel_rfl, fun j t ht => by
    have hm : t ∈ Tryz.f6.params.toList := by simpa using Array.mem_of_getElem? ht
    have hall : ((Tryz.f6.params.toList).all fun u => !Tryz.prog.wantsStandIn u) = true := by kernel_rfl
    exact (show Tryz.prog.wantsStandIn t = false by simpa using List.all_eq_true.1 hall t hm)⟩)
  (by kernel_rfl)
theorem proved : Rows.PlaySameCardSaid := card
#print axioms proved
end Go.Proofs.YtikihijfhgbffaaGreatDoor.playSame
