/- The law on trees that are the same, by the row's card. -/
import Derived.Test.YtkbdlifjhcmgbaaDoorRows
import Derived.Test.YtkbdlifjhcmgbaaDoorCards
import Derived.Test.YtkbdlifjhcmgbaaDoorTie
import Derived.Test.YtkbdlifjhcmgbaaDoorHX
import Derived.Test.YtkbdlifjhcmgbaaDoorRT4
import Derived.Test.YtkbdlifjhcmgbaaDoorRT2
import Derived.Test.YtkbdlifjhcmgbaaDoorR3
import Derived.WalkKit
import Derived.ProofKit
import Derived.OpenShut
import Derived.ShutString
import Derived.ChangeOld
import Derived.Below
import Derived.SizedLaws
import Derived.LaidMore
import Derived.Lay
import Derived.LaidOnce
import Derived.SevenTiedAt
import Derived.Shelf.Vars
import Derived.HandedShaped
set_option linter.unusedVariables false
set_option linter.unusedSimpArgs false
namespace Go.Proofs.YtkbdlifjhcmgbaaDoor.treeSame
open Go.ChangeShapes Go.WideShapes Go.ChangeAt Go.RowKit Go.RR
set_option linter.unusedVariables false
set_option maxRecDepth 100000
/-- The library's table of tens is as it was laid. -/
def gw : GW where
  G := treeText.G
  B := 1
  st := fun w w' h hg => by
    have hn : Tryd.prog.globalNamed "internal/strconv.uint64pow10" = some 0 := by kernel_rfl
    unfold treeText.G Lib.TabIs World.var? at hg ⊢
    rw [hn] at hg ⊢
    simp only [Option.bind_eq_bind, Option.bind_some] at hg ⊢
    rw [h 0 (by omega)]
    exact hg
theorem gw_size {w : World} (h : gw.G w) : gw.B ≤ w.heap.size := by
  have hn : Tryd.prog.globalNamed "internal/strconv.uint64pow10" = some 0 := by kernel_rfl
  have h : treeText.G w := h
  have hm := Lib.TabIs.cell h hn 0 (by rw [Lib.pow10Tab_length]; decide)
  rcases Nat.lt_or_ge 0 w.heap.size with h1 | h1
  · exact h1
  · have : w.heap[0]? = none := Array.getElem?_eq_none (by omega)
    simp [World.cell?, this] at hm
theorem gw_laid {W : World} (h : laidMetH Tryd.prog [("math/bits.deBruijn32tab", Rows.laid_math_bits_deBruijn32tab), ("math/bits.deBruijn64tab", Rows.laid_math_bits_deBruijn64tab), ("internal/strconv.uint64pow10", Rows.laid_internal_strconv_uint64pow10)] W) : gw.G W := by
  rw [MakeChecks.laidMetH_plain _ _ _ (by kernel_rfl)] at h
  obtain ⟨ps, ⟨_, _, _, _, _, _, _, _, _, _, ⟨_, _, _, _, _, _, _, _, _, _, ⟨g, t, cs, fuel, p, q, hg, ht, hv, hd, _, _⟩, _⟩, _⟩, _, _⟩ := h
  obtain rfl := Option.some.inj ((show Tryd.prog.globalNamed "internal/strconv.uint64pow10" = some 0 by kernel_rfl).symm.trans hg)
  obtain rfl := Option.some.inj ((show (Tryd.prog.globals[0]?).map (·.type) = some 91 by kernel_rfl).symm.trans ht)
  have hd' : DataW.trod _ _ _ _ _ _ _ 91 cs.toList = some (Lib.tabData .u64 Lib.pow10Tab, p) := hd
  have e := Lib.cells_of_tab Tryd.underlying91 Tryd.underlying84 (by kernel_rfl) (by kernel_rfl) hd'
  show Lib.TabIs Tryd.prog W "internal/strconv.uint64pow10" .u64 Lib.pow10Tab
  unfold Lib.TabIs
  rw [hv, ← e]
/-- an answer that leaves what was as it was -/
theorem sok_below {f : Nat} {us : Array Value} {w : World} {M : Nat → Prop} {v : V} {u : Value} (hlt : ∀ b, M b → b < w.heap.size) (hf : IsFn Tryd.prog f) (hv : ∀ w', Rel w' M nu0 v u) (hc : Calls Tryd.prog f us w fun e w' => e = .returned u ∧ Below w.heap.size w w') :
    IsFn Tryd.prog f ∧ Calls Tryd.prog f us w fun e w' => ∃ u M', e = .returned u ∧ Rel w' M' nu0 v u ∧ (∀ b, M b → M' b) ∧ (∀ b, M' b → M b ∨ w.heap.size ≤ b) ∧ (∀ b, M' b → b < w'.heap.size) ∧ Stp w w' (fun _ => False) :=
  ⟨hf, hc.mono fun e w' ⟨h1, h2⟩ => ⟨u, M, h1, hv w', fun _ hb => hb, fun _ hb => .inl hb, fun b hb => Nat.lt_of_lt_of_le (hlt b hb) h2.size, ⟨h2.os, h2.tape, h2.output, h2.size, fun k hk _ => h2.block k hk⟩⟩⟩
theorem ints_inv : ∀ {xs : List V} {l : List Int}, ints xs = some l → xs = l.map (V.int .i64)
  | [], l, h => by cases h; rfl
  | x :: r, l, h => by
    unfold ints at h
    split at h <;> try contradiction
    rename_i n r' e
    cases e
    cases hr : ints r with
    | none => rw [hr] at h; cases h
    | some q =>
      rw [hr] at h
      cases h
      rw [ints_inv hr]
      rfl
theorem shelf : SOK Tryd.prog gw M.C.S := by
  intro f args v h us w M hsz hr hlt hi
  change RR.M.S f args = some v at h
  unfold RR.M.S at h
  split at h <;> try contradiction
  rename_i hf
  subst hf
  unfold s_text at h
  split at h <;> try contradiction
  rename_i k p xs
  split at h <;> try contradiction
  rename_i l hl
  split at h <;> try contradiction
  rename_i hc
  cases h
  simp only [Bool.and_eq_true, List.all_eq_true, i64B, decide_eq_true_eq] at hc
  obtain ⟨⟨⟨hk, hp⟩, hks⟩, hn⟩ := hc
  have hx := ints_inv hl
  subst hx
  have h0 := hr 0 (by simp)
  simp only [List.getElem_cons_zero] at h0
  obtain ⟨vs, e0, hvs, -, hv⟩ := h0.agg_inv
  have v0 := (hv 0 (by simp)).int_inv
  have v1 := (hv 1 (by simp)).int_inv
  have v2 := hv 2 (by simp)
  simp only [List.getElem_cons_succ, List.getElem_cons_zero] at v2
  have evs : vs = #[.int .i64 k, .int .i64 p, vs.getD 2 undef] := by
    apply Array.ext
    · simpa using hvs
    · intro i h1 h2
      have h3 : i = 0 ∨ i = 1 ∨ i = 2 := by simp at h2; omega
      rcases h3 with rfl | rfl | rfl
      · rw [← v0]; simp [Array.getD, h1]
      · rw [← v1]; simp [Array.getD, h1]
      · simp [Array.getD, h1]
  rw [us1 (us := us) (by simpa using hsz), e0, evs]
  generalize vs.getD 2 undef = sv at v2 ⊢
  refine sok_below hlt ⟨_, Tryd.func31, by kernel_rfl, by kernel_rfl⟩ (fun _ => .str) ?_
  have key : ∃ A c, sv = .slice A l.length c ∧ (∀ j (hj : j < l.length), ∃ ad : Addr, A = some ad ∧ ad.block < w.heap.size ∧ w.cell? (ad.add j) = some (.int .i64 l[j])) ∧ l.length ≤ c := by
    cases hll : l with
    | nil =>
      subst hll
      cases v2 with
      | sl0 => exact ⟨_, _, rfl, fun j hj => by simp at hj, by simp⟩
      | sl rd hc hM hz h h1 hs hm => exact ⟨_, _, rfl, fun j hj => by simp at hj, by simp⟩
    | cons x r =>
      rw [← hll]
      generalize hX : l.map (V.int .i64) = X at v2
      have hXl : X.length = l.length := by rw [← hX, List.length_map]
      cases v2 with
      | sl0 => rw [hll] at hX; simp at hX
      | @sl _ _ b o c _ rd hc hM hz h h1 hs hm =>
        rw [hXl]
        refine ⟨_, _, rfl, fun j hj => ⟨_, rfl, hlt b hM, ?_⟩, by omega⟩
        have e := hm j (by omega) 0 (by omega)
        have r := h j (by omega)
        have ex : X[j]'(by omega) = .int .i64 l[j] := by simp [← hX]
        rw [ex] at r
        rw [r.int_inv] at e
        by_cases hj0 : j = 0
        · subst hj0
          simpa [Addr.add, Value.cells] using e
        · simpa [Addr.add, Value.cells, hj0] using e
  obtain ⟨A, c, rfl, k1, k2⟩ := key
  exact treeText.text_walk k p l hk hp hks hn A c w hi.1 (gw_size hi.1) k1 k2
theorem shelfH : CallOK Tryd.prog gw M.C.H := CallOK.none
theorem walk {us : Array Value} {w : World} (x0 : List Nd) (x1 : List Nd) (x2 : Int) (x3 : Int) (y2 : I64 x2) (y3 : I64 x3) (hsz : us.size = 4) (h0 : Rel w (fun b => b < w.heap.size) nu0 (treeV x0) (us.getD 0 undef)) (h1 : Rel w (fun b => b < w.heap.size) nu0 (treeV x1) (us.getD 1 undef)) (h2 : Rel w (fun b => b < w.heap.size) nu0 (.int .i64 x2) (us.getD 2 undef)) (h3 : Rel w (fun b => b < w.heap.size) nu0 (.int .i64 x3) (us.getD 3 undef))
    (hG : gw.G w) : Calls Tryd.prog 5 us w fun e w' => e = .returned (.bool true) ∧ Below w.heap.size w w' := by
  obtain ⟨k, hk⟩ := acw_law (M.same x0 x1 x2 x3 [])
  exact law_true M.T_ok shelf shelfH hk (by simpa using hsz) (fun i hi => by
    rcases (show i = 0 ∨ i = 1 ∨ i = 2 ∨ i = 3 by simp at hi; omega) with rfl | rfl | rfl | rfl
    · exact h0
    · exact h1
    · exact h2
    · exact h3) hG (gw_size hG)
theorem own : ownKnob Tryd.prog.godebug = none := by kernel_rfl
theorem out : laidOutB Tryd.prog = true := by kernel_rfl
abbrev laidL : List (String × DataW Unit) := [("math/bits.deBruijn32tab", Rows.laid_math_bits_deBruijn32tab), ("math/bits.deBruijn64tab", Rows.laid_math_bits_deBruijn64tab), ("internal/strconv.uint64pow10", Rows.laid_internal_strconv_uint64pow10)]
theorem readable : ((Tryd.f5.params.toList).all fun t => Tryd.prog.readableRec t && decide (t < Tryd.prog.types.size)) = true := by kernel_rfl
theorem lifted (os : Os) (started : os.Started) (H : Type) (enc : TypeId × Value → H) :
    ReturnsInHanded {} Tryd.checked os 5 .any (fun w args => (Rows.treeSameSpec.pre enc Tryd.prog Tryd.f5 [] false w args ∧ laidMetH Tryd.prog laidL w) ∧ sizedMet enc Tryd.prog Tryd.f5 (OpenSpec.ofChange Rows.treeSameSpec) false w args)
      (Rows.treeSameSpec.post enc Tryd.prog Tryd.f5 false true false false) := by
  refine returns_laid_shaped (C := Tryd.checked) (X := fun w _ => laidMetH Tryd.prog laidL w) (fun _ _ _ hh h => h.of_heap hh) own started (by kernel_rfl) Tryd.func5
    (ChangeSpec.witness_shaped (enc := enc) (C := Tryd.checked) (os := os) (X := fun w _ => laidMetH Tryd.prog laidL w) false (World.laidAll Tryd.prog os laidL) #[.slice none 0 0, .slice none 0 0, .int .i64 0, .int .i64 0] 8 (World.laidAll_os _ _ _)
      (World.shaped_of_ZipB (by kernel_rfl) (by kernel_rfl)) (by kernel_rfl) (by kernel_rfl) (by kernel_rfl)
      (by rw [MakeChecks.laidMetH_plain _ _ _ (by kernel_rfl)]; exact laidMet_laidAll _ (by kernel_rfl) (by kernel_rfl))) ?_
  intro W base args ds gs before hval0 hW hX hsh
  have hval : ∀ (j : Nat) t v, Tryd.f5.params[j]? = some t → args[j]? = some v → Value.okWide Tryd.prog W .any base t v := hval0
  have hW' := hW
  obtain ⟨p, q, hA0, hV, rfl, hfz, hnd⟩ := hW
  have hA : DataW.TrodAll enc Tryd.prog W 0 (fun _ => true) true Tryd.f5.params.toList args.toList ds p := hA0
  have hAll := hA
  rw [Tryd.params5] at hA hval
  obtain ⟨v0, vs0, d0, ds0, p0, q0, hargs, rfl, rfl, h0, r0⟩ := trodAll_cons hA
  obtain ⟨v1, vs1, d1, ds1, p1, q1, rfl, rfl, rfl, h1, r1⟩ := trodAll_cons r0
  obtain ⟨v2, vs2, d2, ds2, p2, q2, rfl, rfl, rfl, h2, r2⟩ := trodAll_cons r1
  obtain ⟨v3, vs3, d3, ds3, p3, q3, rfl, rfl, rfl, h3, r3⟩ := trodAll_cons r2
  obtain ⟨rfl, rfl, rfl⟩ := trodAll_nil r3
  obtain rfl : args = #[v0, v1, v2, v3] := by cases args; simp_all
  obtain ⟨rfl, rfl⟩ := trodVars_none hV
  obtain ⟨c0, a0, b0⟩ := open_arg (s := (.sl nodeSh)) (by kernel_rfl) (hval 0 _ v0 rfl rfl) h0
  obtain ⟨x0, rfl, -⟩ := has_tree a0
  obtain ⟨c1, a1, b1⟩ := open_arg (s := (.sl nodeSh)) (by kernel_rfl) (hval 1 _ v1 rfl rfl) h1
  obtain ⟨x1, rfl, -⟩ := has_tree a1
  obtain ⟨c2, a2, b2⟩ := open_arg (s := .int .i64) (by kernel_rfl) (hval 2 _ v2 rfl rfl) h2
  obtain ⟨x2, rfl, y2⟩ := has_int a2
  obtain ⟨c3, a3, b3⟩ := open_arg (s := .int .i64) (by kernel_rfl) (hval 3 _ v3 rfl rfl) h3
  obtain ⟨x3, rfl, y3⟩ := has_int a3
  refine (walk (us := #[v0, v1, v2, v3]) x0 x1 x2 x3 y2 y3 rfl b0 b1 b2 b3 (gw_laid hX)).mono fun e W' ⟨he, bel⟩ => ?_
  subst he
  exact ⟨_, rfl, _, _, _, [], _, [], hW', trodAll_mk1 (shut_bool Tryd.underlying4 _), Below.trodAll out bel readable hAll, rfl, bel.frame _, fun h => by cases h⟩
theorem over : Rows.treeSameRow.holds Tryd.pinned (OpenSpec.ofChange Rows.treeSameSpec) :=
  OpenClaim.holds_of_wide 5 Tryd.f5 rfl rfl rfl rfl rfl rfl rfl ⟨rfl, rfl, rfl, rfl, rfl⟩ rfl rfl rfl rfl rfl (by kernel_rfl) Tryd.func5 (by kernel_rfl)
    (of_decide_eq_true (by kernel_rfl)) (by unfold Func.isWrapper; first | (rw [if_pos (by decide +kernel)]; kernel_rfl) | (rw [if_neg (by decide +kernel)]; exact ⟨rfl, rfl⟩))
    (fun os started H enc _ => lifted os started H enc)
theorem card : Claim7.holds Tryd.pinned (.plain (OpenSpec.ofChange Rows.treeSameSpec)) Rows.treeSameCard :=
  Claim7.holds_tied_plain_at .later [] [.data, .data, .data] true (true, "61b60da6c5531bbff87360cfe078914490197ec4f2856eab97442ebd4dcc5315") false
    over (fun _ h => by cases h) (by kernel_rfl) (fun _ h => by cases h) treeSame_row_tie rfl ⟨rfl, rfl⟩ (by kernel_rfl) rfl
    (fun f fn hf hfn => by
      obtain rfl : f = 5 := Option.some.inj ((show Tryd.prog.funcNamed "stratagem/stratagemlaw19.TreeSame" = some 5 by kernel_rfl).symm.trans hf) |>.symm
      obtain rfl : fn = Tryd.f5 := (Option.some.inj (Tryd.func5.symm.trans hfn)).symm
      exact ⟨by kernel_rfl, fun j t ht => by
        have hm : t ∈ Tryd.f5.params.toList := by simpa using Array.mem_of_getElem? ht
        have hall : ((Tryd.f5.params.toList).all fun u => !Tryd.prog.wantsStandIn u) = true := by kernel_rfl
        exact (show Tryd.prog.wantsStandIn t = false by simpa using List.all_eq_true.1 hall t hm)⟩)
    (by kernel_rfl)
theorem proved : Rows.TreeSameCardSaid := card
#print axioms proved
end Go.Proofs.YtkbdlifjhcmgbaaDoor.treeSame
