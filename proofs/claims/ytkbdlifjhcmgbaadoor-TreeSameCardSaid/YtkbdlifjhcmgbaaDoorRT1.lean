/- The second reading's table for this seat: the functions that are known by contracts. -/
import Derived.Test.YtkbdlifjhcmgbaaDoorR5
import Derived.Test.YtkbdlifjhcmgbaaDoorRIt
import Derived.Lib.ItoaNum
import Derived.Lib.ItoaLen
set_option linter.unusedVariables false
set_option linter.unusedSimpArgs false
set_option linter.unusedVariables false
set_option linter.unusedSimpArgs false
set_option maxRecDepth 100000
namespace Go.RR
/-- kids behind a text -/
def catB (b : List UInt8) (kids : List Int) : List UInt8 := kids.foldl (fun b k => b ++ (32 :: Go.Lib.itoa k)) b
/-- a node as a text -/
def textB (kind pick : Int) (kids : List Int) : List UInt8 := catB (Go.Lib.itoa kind ++ [32] ++ Go.Lib.itoa pick) kids
def i64B (n : Int) : Bool := decide (-9223372036854775808 ≤ n) && decide (n ≤ 9223372036854775807)
def s_text : List V → Option V
  | [.agg [.int .i64 k, .int .i64 p, .sl 1 xs]] => match ints xs with
    | some l => if i64B k && i64B p && l.all i64B && decide (l.length ≤ 1000000) then some (.str (textB k p l)) else none
    | none => none
  | _ => none
end Go.RR
namespace Go.RR.M
open Go Go.RR
def S (f : Nat) (a : List V) : Option V :=
  if f = n_tree_text then s_text a
  else none
def H (f : Nat) (a : List V) (h : List Ob) : Option (Out × List Ob) := none
def C : Cx := ⟨T, S, H⟩
theorem CT {f : Nat} {F : F} (h : T f = some F) : C.T f = some F := h
end Go.RR.M
set_option maxRecDepth 100000
namespace Go.RR.M
open Go Go.RR
theorem awake0 (n : Nat) (h : List Ob) : acall C (n + 120) n_law19_awake [] h = some (.ret (.bool true), h) := by kernel_rfl
theorem awake (h : List Ob) : acw C n_law19_awake [] h = some (.ret (.bool true), h) := acall_acw 120 _ _ _ _ (awake0 0 h)
end Go.RR.M
set_option linter.unusedVariables false
set_option linter.unusedSimpArgs false
set_option maxRecDepth 100000
namespace Go.RR
structure Nd where
  kind : Int
  pick : Int
  kids : List Int
  deriving DecidableEq, Inhabited
abbrev nodeV (n : Nd) : V := .agg [.int .i64 n.kind, .int .i64 n.pick, intsV n.kids]
abbrev treeV (t : List Nd) : V := .sl 3 (t.map nodeV)
/-- a tree, unfolded -/
inductive UT where
  | nd (k p : Int) (cs : List UT)
def unfF (t : List Nd) : Nat → Nat → UT
  | 0, _ => .nd 0 0 []
  | f + 1, i => match t[i]? with
    | some n => .nd n.kind n.pick (n.kids.map fun k => unfF t f k.toNat)
    | none => .nd 0 0 []
def unf (t : List Nd) (i : Nat) : UT := unfF t (i + 1) i
/-- kids stand ahead -/
def Ahd (t : List Nd) : Prop := ∀ i (h : i < t.length), ∀ k ∈ t[i].kids, 0 ≤ k ∧ k < i
theorem unfF_eq {t : List Nd} (ha : Ahd t) : ∀ (f i : Nat), i < f → unfF t f i = unf t i := by
  intro f
  induction f with
  | zero => intro i h; omega
  | succ f ih =>
    intro i h
    unfold unf
    rw [unfF, unfF]
    cases e : t[i]? with
    | none => rfl
    | some n =>
      simp only
      obtain ⟨hi, e2⟩ := List.getElem?_eq_some_iff.1 e
      congr 1
      apply List.map_congr_left
      intro k hk
      have := ha i hi k (by rw [e2]; exact hk)
      rw [ih k.toNat (by omega)]
      have h2 : k.toNat < i := by omega
      clear ih
      -- the same with less fuel
      have key : ∀ (f g j : Nat), j < f → j < g → unfF t f j = unfF t g j := by
        intro f
        induction f with
        | zero => intro g j h; omega
        | succ f ih =>
          intro g j h1 h2
          cases g with
          | zero => omega
          | succ g =>
            rw [unfF, unfF]
            cases e : t[j]? with
            | none => rfl
            | some n =>
              simp only
              obtain ⟨hj, e2⟩ := List.getElem?_eq_some_iff.1 e
              congr 1
              apply List.map_congr_left
              intro k hk
              have := ha j hj k (by rw [e2]; exact hk)
              exact ih g k.toNat (by omega) (by omega)
      exact key _ _ _ (by omega) h2
theorem unf_eq {t : List Nd} (ha : Ahd t) {i : Nat} (h : i < t.length) : unf t i = .nd t[i].kind t[i].pick (t[i].kids.map fun k => unf t k.toNat) := by
  unfold unf
  rw [unfF]
  simp only [List.getElem?_eq_getElem h]
  congr 1
  apply List.map_congr_left
  intro k hk
  have := ha i h k hk
  exact unfF_eq ha i k.toNat (by omega)
theorem Ahd.pre {t e : List Nd} (h : Ahd (t ++ e)) : Ahd t := fun i hi k hk => by
  have := h i (by rw [List.length_append]; omega) k (by rw [List.getElem_append_left hi]; exact hk)
  exact this
theorem unf_pre {t e : List Nd} (ha : Ahd (t ++ e)) : ∀ (i : Nat), i < t.length → unf (t ++ e) i = unf t i := by
  intro i
  induction i using Nat.strongRecOn with
  | _ i ih =>
    intro hi
    have hl : i < (t ++ e).length := by rw [List.length_append]; omega
    rw [unf_eq ha hl, unf_eq ha.pre hi]
    have e1 : (t ++ e)[i] = t[i] := List.getElem_append_left hi
    rw [e1]
    congr 1
    apply List.map_congr_left
    intro k hk
    have := ha.pre i hi k hk
    exact ih k.toNat (by omega) (by omega)
/-- nodes, no two of which are alike -/
structure Good (out : List Nd) : Prop where
  ahd : Ahd out
  nodup : ∀ i j (hi : i < out.length) (hj : j < out.length), out[i] = out[j] → i = j
theorem map_unf_inj {out : List Nd} {is js : List Int} (h : is.map (fun k => unf out k.toNat) = js.map (fun k => unf out k.toNat)) (hi : ∀ a ∈ is, ∀ b ∈ js, unf out a.toNat = unf out b.toNat → a = b) : is = js := by
  induction is generalizing js with
  | nil =>
    cases js with
    | nil => rfl
    | cons b js => simp at h
  | cons a is ih =>
    cases js with
    | nil => simp at h
    | cons b js =>
      simp only [List.map_cons, List.cons.injEq] at h
      rw [hi a (by simp) b (by simp) h.1, ih h.2 fun x hx y hy => hi x (by simp [hx]) y (by simp [hy])]
/-- no two of them are the same, unfolded -/
theorem Good.inj {out : List Nd} (g : Good out) : ∀ (n i j : Nat), i < n → j < n → (hi : i < out.length) → (hj : j < out.length) → unf out i = unf out j → i = j := by
  intro n
  induction n with
  | zero => intro i j h; omega
  | succ n ih =>
    intro i j hin hjn hi hj h
    rw [unf_eq g.ahd hi, unf_eq g.ahd hj] at h
    injection h with h1 h2 h3
    refine g.nodup i j hi hj ?_
    have hk : out[i].kids = out[j].kids := map_unf_inj h3 fun a ha b hb hab => by
      have ka := g.ahd i hi a ha
      have kb := g.ahd j hj b hb
      have := ih a.toNat b.toNat (by omega) (by omega) (by omega) (by omega) hab
      omega
    cases hx : out[i]
    cases hy : out[j]
    rw [hx, hy] at h1 h2 hk
    simp only at h1 h2 hk
    rw [h1, h2, hk]
/-- where a node stands, and that it stands there -/
def putN (out : List Nd) (n : Nd) : List Nd × Nat := match out.findIdx? (fun m => decide (m = n)) with
  | some i => (out, i)
  | none => (out ++ [n], out.length)
mutual
/-- a tree, put in -/
def shU : UT → List Nd → List Nd × Nat
  | .nd k p cs, out => putN (shL cs out).1 ⟨k, p, (shL cs out).2⟩
def shL : List UT → List Nd → List Nd × List Int
  | [], out => (out, [])
  | u :: r, out => ((shL r (shU u out).1).1, ((shU u out).2 : Int) :: (shL r (shU u out).1).2)
end
theorem putN_spec {out : List Nd} {n : Nd} (g : Good out) (hn : ∀ k ∈ n.kids, 0 ≤ k ∧ k < out.length) :
    Good (putN out n).1 ∧ (∃ e, (putN out n).1 = out ++ e) ∧ ∃ h : (putN out n).2 < (putN out n).1.length, (putN out n).1[(putN out n).2] = n := by
  unfold putN
  cases e : out.findIdx? (fun m => decide (m = n)) with
  | some i =>
    obtain ⟨h1, h2, h3⟩ := List.findIdx?_eq_some_iff_getElem.1 e
    exact ⟨g, ⟨[], by simp⟩, h1, by simpa using h2⟩
  | none =>
    have hno := List.findIdx?_eq_none_iff.1 e
    simp only
    refine ⟨⟨fun i hi k hk => ?_, fun i j hi hj hij => ?_⟩, ⟨[n], rfl⟩, by simp, by simp⟩
    · simp at hi
      by_cases c : i < out.length
      · rw [List.getElem_append_left c] at hk
        exact g.ahd i c k hk
      · obtain rfl : i = out.length := by omega
        simp at hk
        exact hn k hk
    · simp at hi hj
      have hx : ∀ m (hm : m < out.length), out[m] ≠ n := fun m hm e => by have := hno out[m] (List.getElem_mem hm); simp [e] at this
      by_cases ci : i < out.length
      · by_cases cj : j < out.length
        · rw [List.getElem_append_left ci, List.getElem_append_left cj] at hij
          exact g.nodup i j ci cj hij
        · obtain rfl : j = out.length := by omega
          rw [List.getElem_append_left ci] at hij
          simp at hij
          exact absurd hij (hx i ci)
      · obtain rfl : i = out.length := by omega
        by_cases cj : j < out.length
        · rw [List.getElem_append_left cj] at hij
          simp at hij
          exact absurd hij.symm (hx j cj)
        · omega
mutual
theorem shU_spec : ∀ (u : UT) (out : List Nd), Good out → Good (shU u out).1 ∧ (∃ e, (shU u out).1 = out ++ e) ∧ (shU u out).2 < (shU u out).1.length ∧ unf (shU u out).1 (shU u out).2 = u
  | .nd k p cs, out, g => by
    obtain ⟨g1, ⟨e1, h1⟩, h2, h3⟩ := shL_spec cs out g
    rw [shU]
    obtain ⟨g2, ⟨e2, k2⟩, k3, k4⟩ := putN_spec (n := ⟨k, p, (shL cs out).2⟩) g1 h2
    refine ⟨g2, ⟨e1 ++ e2, by rw [k2, h1, List.append_assoc]⟩, k3, ?_⟩
    rw [unf_eq g2.ahd k3, k4]
    simp only
    congr 1
    refine Eq.trans (List.map_congr_left fun a ha => ?_) h3
    have := h2 a ha
    have gg := g2.ahd
    rw [k2] at gg ⊢
    exact unf_pre gg a.toNat (by omega)
theorem shL_spec : ∀ (cs : List UT) (out : List Nd), Good out → Good (shL cs out).1 ∧ (∃ e, (shL cs out).1 = out ++ e) ∧ (∀ k ∈ (shL cs out).2, 0 ≤ k ∧ k < (shL cs out).1.length) ∧ (shL cs out).2.map (fun k => unf (shL cs out).1 k.toNat) = cs
  | [], out, g => by
    rw [shL]
    exact ⟨g, ⟨[], by simp⟩, by simp, rfl⟩
  | u :: r, out, g => by
    obtain ⟨g1, ⟨e1, h1⟩, h2, h3⟩ := shU_spec u out g
    obtain ⟨g2, ⟨e2, k1⟩, k2, k3⟩ := shL_spec r (shU u out).1 g1
    rw [shL]
    refine ⟨g2, ⟨e1 ++ e2, by rw [k1, h1, List.append_assoc]⟩, fun k hk => ?_, ?_⟩
    · rcases List.mem_cons.1 hk with rfl | hk
      · have : (shU u out).1.length ≤ (shL r (shU u out).1).1.length := by rw [k1, List.length_append]; omega
        show 0 ≤ ((shU u out).2 : Int) ∧ ((shU u out).2 : Int) < ((shL r (shU u out).1).1.length : Int)
        omega
      · exact k2 k hk
    · simp only [List.map_cons, Int.toNat_natCast]
      rw [k3]
      congr 1
      have gg := g2.ahd
      rw [k1] at gg ⊢
      rw [unf_pre gg _ h2, h3]
end
mutual
/-- what is in stays -/
theorem shU_in : ∀ (u : UT) (out : List Nd) (i : Nat), Good out → i < out.length → unf out i = u → shU u out = (out, i)
  | .nd k p cs, out, i, g, hi, h => by
    rw [unf_eq g.ahd hi] at h
    injection h with h1 h2 h3
    have hk := shL_in cs out out[i].kids g (fun a ha => by have := g.ahd i hi a ha; omega) h3
    rw [shU, hk]
    simp only
    have hn : (⟨k, p, out[i].kids⟩ : Nd) = out[i] := by cases hx : out[i]; rw [hx] at h1 h2; simp only at h1 h2; rw [h1, h2]
    rw [hn]
    unfold putN
    have : out.findIdx? (fun m => decide (m = out[i])) = some i := by
      refine List.findIdx?_eq_some_iff_getElem.2 ⟨hi, by simp, fun j hj => ?_⟩
      have hne : out[j] ≠ out[i] := fun e => by have := g.nodup j i (by omega) hi e; omega
      simp [hne]
    rw [this]
theorem shL_in : ∀ (cs : List UT) (out : List Nd) (is : List Int), Good out → (∀ k ∈ is, 0 ≤ k ∧ k < out.length) → is.map (fun k => unf out k.toNat) = cs → shL cs out = (out, is)
  | [], out, is, g, hk, h => by
    have : is = [] := List.map_eq_nil_iff.1 h
    subst this
    rw [shL]
  | u :: r, out, is, g, hk, h => by
    cases is with
    | nil => simp at h
    | cons a is =>
      simp only [List.map_cons, List.cons.injEq] at h
      have ha := hk a (by simp)
      rw [shL, shU_in u out a.toNat g (by omega) h.1, shL_in r out is g (fun k hx => hk k (by simp [hx])) h.2]
      simp only
      congr 2
      omega
end
theorem Good.nil : Good [] := ⟨fun i h => by simp at h, fun i j h => by simp at h⟩
end Go.RR
set_option linter.unusedVariables false
set_option linter.unusedSimpArgs false
set_option maxRecDepth 100000
set_option maxHeartbeats 4000000
namespace Go.RR
def fitsN (k p n : Int) : Bool := (decide (k = 0) && (decide (p = 0) && decide (n = 0))) || ((decide (k = 1) && (decide (0 ≤ p) && decide (p ≤ 63) && decide (n = 1))) || (decide (k = 2) && (decide (p = 0) && decide (1 ≤ n) && decide (n ≤ 64))))
theorem fits_len {k p : Int} {n : Nat} (h : fitsN k p n = true) : n ≤ 64 := by
  simp only [fitsN, Bool.or_eq_true, Bool.and_eq_true, decide_eq_true_eq] at h
  omega
def badK (i k : Int) : Bool := decide (k < 0) || decide (i ≤ k)
def nodeOK (i : Nat) (n : Nd) : Bool := fitsN n.kind n.pick n.kids.length && !n.kids.any (badK i)
def mayF : Nat → List Nd → Bool
  | _, [] => true
  | i, n :: r => nodeOK i n && mayF (i + 1) r
def mayT (t : List Nd) : Bool := decide (0 < t.length) && (decide (t.length ≤ 100000) && mayF 0 t)
end Go.RR
namespace Go.RR.M
open Go Go.RR
theorem tree_fits (k p n : Int) (h : List Ob) : acw C n_tree_fits [iv k, iv p, iv n] h = some (.ret (.bool (fitsN k p n)), h) := by
  refine acw_ex (v := .bool (fitsN k p n)) (CT T_tree_fits) rfl rfl (fun _ => rfl) (by simp) ?_
  by_cases c0 : k = 0
  · subst c0
    by_cases c1 : p = 0 <;> by_cases c2 : n = 0 <;> simp [runW_fin, F_tree_fits, i_tree_fits, ieq, ine, fitsN, c1, c2]
  · by_cases c1 : k = 1
    · subst c1
      by_cases d1 : 0 ≤ p <;> by_cases d2 : p ≤ 63 <;> by_cases d3 : n = 1 <;> simp [runW_fin, F_tree_fits, i_tree_fits, ieq, ine, fitsN, d1, d2, d3]
    · by_cases c2 : k = 2
      · subst c2
        by_cases d1 : p = 0 <;> by_cases d2 : 1 ≤ n <;> by_cases d3 : n ≤ 64 <;> simp [runW_fin, F_tree_fits, i_tree_fits, ieq, ine, fitsN, d1, d2, d3]
      · simp [runW_fin, F_tree_fits, i_tree_fits, ieq, ine, fitsN, c0, c1, c2]
theorem ref19_Fits (k p n : Int) (h : List Ob) : acw C n_ref19_Fits [iv k, iv p, iv n] h = some (.ret (.bool (fitsN k p n)), h) := by
  refine acw_ex (v := .bool (fitsN k p n)) (CT T_ref19_Fits) rfl rfl (fun _ => rfl) (by simp) ?_
  by_cases c0 : k = 0
  · subst c0
    by_cases c1 : p = 0 <;> by_cases c2 : n = 0 <;> simp [runW_fin, F_ref19_Fits, i_ref19_Fits, ieq, ine, fitsN, c1, c2]
  · by_cases c1 : k = 1
    · subst c1
      have e : (p < 64) = (p ≤ 63) := by apply propext; omega
      by_cases d1 : 0 ≤ p <;> by_cases d2 : p ≤ 63 <;> by_cases d3 : n = 1 <;> simp [runW_fin, F_ref19_Fits, i_ref19_Fits, ieq, ine, fitsN, d1, d2, d3, e]
    · by_cases c2 : k = 2
      · subst c2
        have e : (n < 65) = (n ≤ 64) := by apply propext; omega
        have e2 : (0 < n) = (1 ≤ n) := by apply propext; omega
        by_cases d1 : p = 0 <;> by_cases d2 : 1 ≤ n <;> by_cases d3 : n ≤ 64 <;> simp [runW_fin, F_ref19_Fits, i_ref19_Fits, ieq, ine, fitsN, d1, d2, d3, e, e2]
      · simp [runW_fin, F_ref19_Fits, i_ref19_Fits, ieq, ine, fitsN, c0, c1, c2]
theorem tree_May_1 (k i : Int) (h : List Ob) : acw C n_tree_May_1 [iv k, .pin (iv i) 0] h = some (.ret (.bool (badK i k)), h) := by
  refine acw_ex (v := .bool (badK i k)) (CT T_tree_May_1) rfl rfl (fun _ => rfl) (by simp) ?_
  by_cases c0 : k < 0 <;> by_cases c1 : i ≤ k <;> simp [runW_fin, F_tree_May_1, i_tree_May_1, badK, c0, c1]
theorem contains_kids (i : Int) (l : List Int) (hl : l.length ≤ 4611686018427387904) {a : Nat} {h : List Ob} (e : h[a]? = some (.row 1 [iv i])) : acw C n_slices_ContainsFunc_sint_int [intsV l, .fn (.func n_tree_May_1) [] [.ptr a 0 0 1]] h = some (.ret (.bool (l.any (badK i))), h) :=
  containsFunc (enc := V.int .i64) (ag := false) (sz := 1) (g := n_tree_May_1) (first := []) (cap := [.pin (iv i) 0]) (CT T_slices_IndexFunc_sint_int) (CT T_slices_ContainsFunc_sint_int) l hl (fun _ _ => elt_int) (frz_box e rfl) (fun _ => rfl) (fun a _ => tree_May_1 a i [])
theorem may_loop (t : List Nd) (hn : t.length ≤ 4611686018427387904) : ∀ (d i : Nat) (h : List Ob), i + d = t.length →
    ∃ fr' h', evw C y0 i_tree_May_l0 [(13, treeV t), (14, iv t.length), (15, iv i)] h = some (if mayF i (t.drop i) = true then (.ext 0, fr', h') else (.ret, [(2, .bool false)], h'))
  | 0, i, h, e => by
    obtain rfl : i = t.length := by omega
    rw [r_tree_May_0]
    refine ⟨[(13, treeV t), (14, iv t.length), (15, iv t.length), (16, .bool false)], h, ?_⟩
    simp [b_tree_May_0, mayF]
  | d + 1, i, h, e => by
    have hlt : i < t.length := by omega
    have h2 : (i : Int) < t.length := by omega
    have h3 : t[i]? = some t[i] := by simp [hlt]
    have hw := wrap_succ (i := i) (n := t.length) hlt (by omega)
    rw [r_tree_May_0, List.drop_eq_getElem_cons hlt]
    simp only [mayF]
    generalize t[i] = nd at *
    have kf := tree_fits nd.kind nd.pick nd.kids.length
    cases c1 : fitsN nd.kind nd.pick nd.kids.length with
    | false =>
      rw [c1] at kf
      refine ⟨[], h ++ [.row 1 [iv i], .row 3 [nodeV nd]], ?_⟩
      simp [b_tree_May_0, h2, h3, kf, nodeOK, c1]
    | true =>
      rw [c1] at kf
      have hks : nd.kids.length ≤ 4611686018427387904 := by have := fits_len c1; omega
      have kc := contains_kids (i : Int) nd.kids hks (a := h.length) (h := h ++ [.row 1 [iv i], .row 3 [nodeV nd]]) (by simp)
      cases c2 : nd.kids.any (badK i) with
      | true =>
        rw [c2] at kc
        refine ⟨[], h ++ [.row 1 [iv i], .row 3 [nodeV nd]], ?_⟩
        simp [b_tree_May_0, h2, h3, kf, nodeOK, c1, c2, kc]
      | false =>
        rw [c2] at kc
        obtain ⟨fr', h', ih⟩ := may_loop t hn d (i + 1) (h ++ [.row 1 [iv i], .row 3 [nodeV nd]]) (by omega)
        simp only [Int.natCast_add, Int.cast_ofNat_Int] at ih
        refine ⟨fr', h', ?_⟩
        have e0 : nodeOK i nd = true := by simp only [nodeOK, c1, c2]; rfl
        simp only [e0, Bool.true_and]
        rw [← ih]
        simp [b_tree_May_0, h2, h3, kf, kc, hw]
theorem tree_May (t : List Nd) (hn : t.length ≤ 4611686018427387904) (h : List Ob) : acw C n_tree_May [treeV t] h = some (.ret (.bool (mayT t)), h) := by
  refine acw_ex (v := .bool (mayT t)) (CT T_tree_May) rfl rfl (fun _ => rfl) (by simp) ?_
  by_cases c1 : t = []
  · subst c1
    simp [runW_fin, F_tree_May, i_tree_May, mayT]
  · have c1' : 0 < t.length := List.length_pos_iff.2 c1
    have c2' : ¬ t.length = 0 := by omega
    have c1i : ¬ ((t.length : Int) = 0) := by omega
    by_cases c3 : t.length ≤ 100000
    · have c3' : ¬ (100000 < (t.length : Int)) := by omega
      have c3n : ¬ (100000 < t.length) := by omega
      obtain ⟨fr', h', lp⟩ := may_loop t hn t.length 0 [] (by omega)
      simp only [List.drop_zero, Int.cast_ofNat_Int] at lp
      cases c4 : mayF 0 t with
      | true =>
        simp only [c4, if_true] at lp
        simp [runW_fin, F_tree_May, i_tree_May, mayT, ieq, c1, c1', c2', c1i, c3, c3', c3n, c4, lp]
      | false =>
        simp only [c4, Bool.false_eq_true, if_false] at lp
        simp [runW_fin, F_tree_May, i_tree_May, mayT, ieq, c1, c1', c2', c1i, c3, c3', c3n, c4, lp]
    · have c3' : 100000 < (t.length : Int) := by omega
      have c3n : 100000 < t.length := by omega
      simp [runW_fin, F_tree_May, i_tree_May, mayT, ieq, c1, c1', c2', c1i, c3, c3', c3n]
end Go.RR.M
set_option linter.unusedVariables false
set_option linter.unusedSimpArgs false
set_option maxRecDepth 100000
set_option maxHeartbeats 4000000
namespace Go.RR.M
open Go Go.RR
theorem nodeV_fz (n : Nd) : Fz (nodeV n) := Fz.agg rfl
theorem frz_nodes (h : List Ob) (n : Nat) (t : List Nd) : mapO (frz h (n + 4)) (t.map nodeV) = some (t.map nodeV) := mapO_id fun x hx => by
  obtain ⟨a, -, rfl⟩ := List.mem_map.1 hx
  exact nodeV_fz a h n
theorem rmay_l0 (t : List Nd) (i : Nat) (hi : i < t.length) (hk : t[i].kids.length ≤ 4611686018427387904) : ∀ (d j : Nat), j + d = t[i].kids.length →
    evw C y0 i_ref19_May_l0 [(0, treeV t), (3, iv i), (4, iv j)] [] = some (if (t[i].kids.drop j).any (badK i) = true then (.ret, [(2, .bool false)], []) else (.ext 2, [(0, treeV t), (3, iv i), (4, iv t[i].kids.length), (36, .bool false)], []))
  | 0, j, e => by
    obtain rfl : j = t[i].kids.length := by omega
    have h3 : t[i]? = some t[i] := by simp [hi]
    rw [r_ref19_May_0]
    simp [b_ref19_May_0, hi, h3]
  | d + 1, j, e => by
    have hlt : j < t[i].kids.length := by omega
    have h2 : (j : Int) < t[i].kids.length := by omega
    have h3 : t[i]? = some t[i] := by simp [hi]
    have hw := wrap_succ (i := j) (n := t[i].kids.length) hlt (by omega)
    have ih := rmay_l0 t i hi hk d (j + 1) (by omega)
    simp only [Int.natCast_add, Int.cast_ofNat_Int] at ih
    have hi2 : (i : Int) < t.length := by omega
    rw [r_ref19_May_0, List.drop_eq_getElem_cons hlt]
    simp only [List.any_cons]
    obtain ⟨k, hkk⟩ : ∃ k, k = t[i].kids[j] := ⟨_, rfl⟩
    have h5 : t[i].kids[j]? = some k := by simp [hlt, hkk]
    have h6 : ∀ h : j < t[i].kids.length, t[i].kids[j]'h = k := fun _ => hkk.symm
    rw [h6]
    by_cases c1 : k < 0
    · have e0 : badK i k = true := by simp [badK, c1]
      simp [b_ref19_May_0, hi, hi2, h2, h3, h3, h5, h6, hlt, c1, e0]
    · by_cases c2 : (i : Int) ≤ k
      · have e0 : badK i k = true := by simp [badK, c2]
        simp [b_ref19_May_0, hi, hi2, h2, h3, h3, h5, h6, hlt, c1, c2, e0]
      · have e0 : badK i k = false := by simp [badK, c1, c2]
        simp only [e0, Bool.false_or]
        rw [← ih]
        simp [b_ref19_May_0, hi, hi2, h2, h3, h3, h5, h6, hlt, c1, c2, hw]
theorem rmay_l1 (t : List Nd) (hn : t.length ≤ 4611686018427387904) : ∀ (d i : Nat), i + d = t.length →
    evw C y0 i_ref19_May_l1 [(0, treeV t), (3, iv i)] [] = some (if mayF i (t.drop i) = true then (.ext 0, [(0, treeV t), (3, iv t.length), (8, .bool false)], []) else (.ret, [(2, .bool false)], []))
  | 0, i, e => by
    obtain rfl : i = t.length := by omega
    rw [r_ref19_May_1]
    simp [b_ref19_May_1, mayF]
  | d + 1, i, e => by
    have hlt : i < t.length := by omega
    have h2 : (i : Int) < t.length := by omega
    have h3 : t[i]? = some t[i] := by simp [hlt]
    have hw := wrap_succ (i := i) (n := t.length) hlt (by omega)
    have ih := rmay_l1 t hn d (i + 1) (by omega)
    simp only [Int.natCast_add, Int.cast_ofNat_Int] at ih
    rw [r_ref19_May_1, List.drop_eq_getElem_cons hlt]
    simp only [mayF]
    have kf := ref19_Fits t[i].kind t[i].pick t[i].kids.length
    cases c1 : fitsN t[i].kind t[i].pick t[i].kids.length with
    | false =>
      rw [c1] at kf
      simp [b_ref19_May_1, h2, h3, hlt, kf, nodeOK, c1]
    | true =>
      rw [c1] at kf
      have l0 := rmay_l0 t i hlt (by have := fits_len c1; omega) t[i].kids.length 0 (by omega)
      simp only [List.drop_zero, Int.cast_ofNat_Int] at l0
      cases c2 : t[i].kids.any (badK i) with
      | true =>
        simp only [c2, if_true] at l0
        simp [b_ref19_May_1, h2, h3, hlt, kf, nodeOK, c1, c2, l0]
      | false =>
        simp only [c2, Bool.false_eq_true, if_false] at l0
        have e0 : nodeOK i t[i] = true := by simp only [nodeOK, c1, c2]; rfl
        simp only [e0, Bool.true_and]
        rw [← ih]
        simp [b_ref19_May_1, h2, h3, hlt, kf, l0, hw]
theorem ref19_May (t : List Nd) (hn : t.length ≤ 4611686018427387904) (h : List Ob) : acw C n_ref19_May [treeV t] h = some (.ret (.bool (mayT t)), h) := by
  refine acw_ex (v := .bool (mayT t)) (CT T_ref19_May) rfl rfl (fun _ => rfl) (by simp) ?_
  have lp := rmay_l1 t hn t.length 0 (by omega)
  simp only [List.drop_zero, Int.cast_ofNat_Int] at lp
  cases c4 : mayF 0 t with
  | true =>
    simp only [c4, if_true] at lp
    by_cases c1 : t = []
    · have e1 : t.length = 0 := by simp [c1]
      have e2 : mayT t = false := by simp [mayT, e1]
      have e3 : ¬ ((1 : Int) ≤ t.length) := by omega
      rw [e2]
      simp [runW_fin, F_ref19_May, i_ref19_May, lp, e1, e3]
    · have c1' : 0 < t.length := List.length_pos_iff.2 c1
      have c1i : (1 : Int) ≤ t.length := by omega
      have c1n : 1 ≤ t.length := by omega
      by_cases c3 : t.length ≤ 100000
      · have c3i : (t.length : Int) ≤ 100000 := by omega
        simp [runW_fin, F_ref19_May, i_ref19_May, mayT, c1, c1', c1i, c1n, c3, c3i, c4, lp]
      · have c3i : ¬ ((t.length : Int) ≤ 100000) := by omega
        simp [runW_fin, F_ref19_May, i_ref19_May, mayT, c1, c1', c1i, c1n, c3, c3i, c4, lp]
  | false =>
    simp only [c4, Bool.false_eq_true, if_false] at lp
    simp [runW_fin, F_ref19_May, i_ref19_May, mayT, c4, lp]
theorem own_loop (t : List Nd) (hn : t.length ≤ 1000000) : ∀ (d i : Nat) (v : V) (h : List Ob), i + d = t.length → AccB 0 h v 3 ((t.map nodeV).take i) →
    ∃ v' h', evw C y0 i_law19_Own_l0 [(3, v), (7, treeV t), (8, iv t.length), (9, iv i)] h = some (.ext 0, [(3, v'), (7, treeV t), (8, iv t.length), (9, iv t.length), (10, .bool false)], h') ∧ AccB 0 h' v' 3 (t.map nodeV)
  | 0, i, v, h, e, a => by
    obtain rfl : i = t.length := by omega
    rw [r_law19_Own_0]
    refine ⟨v, h, ?_, ?_⟩
    · simp [b_law19_Own_0]
    · rw [List.take_of_length_le (by simp)] at a
      exact a
  | d + 1, i, v, h, e, a => by
    have hlt : i < t.length := by omega
    have h2 : (i : Int) < t.length := by omega
    have h3 : t[i]? = some t[i] := by simp [hlt]
    have hw := wrap_succ (i := i) (n := t.length) hlt (by omega)
    have a2 : AccB 0 (h ++ [.row 3 [nodeV t[i]]]) v 3 ((t.map nodeV).take i) := a.more
    have hl : ((t.map nodeV).take i).length ≤ 1000000 := by simp; omega
    obtain ⟨v1, w, e1, e2, -, -⟩ := a2.app (b := 40) (y := .sl 3 [nodeV t[i]]) (ys := [nodeV t[i]]) (by omega) rfl (by simp only [List.length_cons, List.length_nil]; omega) (by simp only [List.length_cons, List.length_nil]; omega)
    have e3 : (t.map nodeV).take i ++ [nodeV t[i]] = (t.map nodeV).take (i + 1) := by
      rw [List.take_succ_eq_append_getElem (by simpa using hlt)]
      simp
    rw [e3] at e2
    obtain ⟨v', h', ih, a3⟩ := own_loop t hn d (i + 1) v1 _ (by omega) e2
    simp only [Int.natCast_add, Int.cast_ofNat_Int] at ih
    refine ⟨v', h', ?_, a3⟩
    have k4 : bsfL (.agg [.int .i64 0, .int .i64 0, .nsl 1]) [nodeV t[i]] = some (.sl 3 [nodeV t[i]]) := rfl
    simp at e1
    rw [r_law19_Own_0, ← ih]
    simp [b_law19_Own_0, h2, h3, hlt, k4, e1, hw]
theorem law19_Own (t : List Nd) (hn : t.length ≤ 1000000) (h : List Ob) : acw C n_law19_Own [treeV t] h = some (.ret (treeV t), h) := by
  obtain ⟨v', h', lp, a⟩ := own_loop t hn t.length 0 (.own 0 0 0 0) [.row 3 []] (by omega) (.inr ⟨0, by omega, rfl, rfl⟩)
  simp only [Int.cast_ofNat_Int] at lp
  have kz : frz h' fdepth v' = some (treeV t) := a.frz 11 (frz_nodes _ 7 _)
  refine acw_pure (a2 := [treeV t]) (h' := h') (v := v') (CT T_law19_Own) rfl rfl ?_ kz (by simp)
  simp [runW_fin, F_law19_Own, i_law19_Own, lp]
end Go.RR.M
set_option linter.unusedVariables false
set_option linter.unusedSimpArgs false
set_option maxRecDepth 100000
set_option maxHeartbeats 4000000
namespace Go.RR
theorem Nd.ext' {a b : Nd} (h1 : a.kind = b.kind) (h2 : a.pick = b.pick) (h3 : a.kids = b.kids) : a = b := by
  cases a; cases b; simp only at h1 h2 h3; rw [h1, h2, h3]
end Go.RR
namespace Go.RR.M
open Go Go.RR
theorem req_l0 (a b : List Nd) (i : Nat) (ha : i < a.length) (hb : i < b.length) (hkl : a[i].kids.length = b[i].kids.length) (hk : a[i].kids.length ≤ 4611686018427387904) : ∀ (d j : Nat), j + d = a[i].kids.length →
    evw C y0 i_ref19_Equal_l0 [(0, treeV a), (1, treeV b), (5, iv i), (6, iv j)] [] = some (if a[i].kids.drop j = b[i].kids.drop j then (.ext 2, [(0, treeV a), (1, treeV b), (5, iv i), (6, iv a[i].kids.length), (64, .bool false)], []) else (.ret, [(4, .bool false)], []))
  | 0, j, e => by
    obtain rfl : j = a[i].kids.length := by omega
    have h3 : a[i]? = some a[i] := by simp [ha]
    have h4 : b[i]? = some b[i] := by simp [hb]
    have e1 : b[i].kids.drop a[i].kids.length = [] := List.drop_of_length_le (by omega)
    rw [r_ref19_Equal_0, List.drop_length, e1, if_pos rfl]
    simp [b_ref19_Equal_0, ha, hb, h3, h4]
  | d + 1, j, e => by
    have hlt : j < a[i].kids.length := by omega
    have hltb : j < b[i].kids.length := by omega
    have h2 : (j : Int) < a[i].kids.length := by omega
    have h2b : (j : Int) < b[i].kids.length := by omega
    have h3 : a[i]? = some a[i] := by simp [ha]
    have h4 : b[i]? = some b[i] := by simp [hb]
    have hw := wrap_succ (i := j) (n := a[i].kids.length) hlt (by omega)
    have ih := req_l0 a b i ha hb hkl hk d (j + 1) (by omega)
    simp only [Int.natCast_add, Int.cast_ofNat_Int] at ih
    have ha2 : (i : Int) < a.length := by omega
    have hb2 : (i : Int) < b.length := by omega
    rw [r_ref19_Equal_0, List.drop_eq_getElem_cons hlt, List.drop_eq_getElem_cons hltb]
    obtain ⟨x, hx⟩ : ∃ x, x = a[i].kids[j] := ⟨_, rfl⟩
    obtain ⟨y, hy⟩ : ∃ y, y = b[i].kids[j] := ⟨_, rfl⟩
    have h5 : a[i].kids[j]? = some x := by simp [hlt, hx]
    have h6 : b[i].kids[j]? = some y := by simp [hltb, hy]
    have h7 : ∀ h : j < a[i].kids.length, a[i].kids[j]'h = x := fun _ => hx.symm
    have h8 : ∀ h : j < b[i].kids.length, b[i].kids[j]'h = y := fun _ => hy.symm
    rw [h7, h8]
    by_cases c5 : x = y
    · subst c5
      simp only [List.cons.injEq, true_and]
      rw [← ih]
      simp [b_ref19_Equal_0, ha, hb, ha2, hb2, h2, h2b, h3, h4, h5, h6, h7, h8, hlt, hltb, hw]
    · rw [if_neg fun e => c5 (List.cons.inj e).1]
      simp [b_ref19_Equal_0, ha, hb, ha2, hb2, h2, h2b, h3, h4, h5, h6, h7, h8, hlt, hltb, ine, c5]
theorem req_l1 (a b : List Nd) (hab : a.length = b.length) (hn : a.length ≤ 4611686018427387904) (hk : ∀ n ∈ a, n.kids.length ≤ 4611686018427387904) : ∀ (d i : Nat), i + d = a.length →
    evw C y0 i_ref19_Equal_l1 [(0, treeV a), (1, treeV b), (5, iv i)] [] = some (if a.drop i = b.drop i then (.ext 0, [(0, treeV a), (1, treeV b), (5, iv a.length), (15, .bool false)], []) else (.ret, [(4, .bool false)], []))
  | 0, i, e => by
    obtain rfl : i = a.length := by omega
    have e1 : b.drop a.length = [] := List.drop_of_length_le (by omega)
    rw [r_ref19_Equal_1, List.drop_length, e1, if_pos rfl]
    simp [b_ref19_Equal_1]
  | d + 1, i, e => by
    have hlt : i < a.length := by omega
    have hltb : i < b.length := by omega
    have h2 : (i : Int) < a.length := by omega
    have h2b : (i : Int) < b.length := by omega
    have h3 : a[i]? = some a[i] := by simp [hlt]
    have h4 : b[i]? = some b[i] := by simp [hltb]
    have hw := wrap_succ (i := i) (n := a.length) hlt (by omega)
    have ih := req_l1 a b hab hn hk d (i + 1) (by omega)
    simp only [Int.natCast_add, Int.cast_ofNat_Int] at ih
    have hks := hk a[i] (List.getElem_mem hlt)
    have l0 := fun hkl => req_l0 a b i hlt hltb hkl hks a[i].kids.length 0 (by omega)
    simp only [List.drop_zero, Int.cast_ofNat_Int] at l0
    rw [r_ref19_Equal_1, List.drop_eq_getElem_cons hlt, List.drop_eq_getElem_cons hltb]
    by_cases c1 : a[i].kind = b[i].kind
    · by_cases c2 : a[i].pick = b[i].pick
      · by_cases c3 : a[i].kids.length = b[i].kids.length
        · have l0 := l0 c3
          have c3i : (a[i].kids.length : Int) = b[i].kids.length := by omega
          by_cases c4 : a[i].kids = b[i].kids
          · rw [if_pos c4] at l0
            have e0 : a[i] = b[i] := Nd.ext' c1 c2 c4
            rw [e0]
            simp only [List.cons.injEq, true_and]
            rw [← ih]
            simp [b_ref19_Equal_1, hlt, hltb, h2, h2b, h3, h4, l0, hw, ine, c1, c2, c3, c3i]
          · rw [if_neg c4] at l0
            rw [if_neg fun e => c4 (by rw [(List.cons.inj e).1])]
            simp [b_ref19_Equal_1, hlt, hltb, h2, h2b, h3, h4, l0, hw, ine, c1, c2, c3, c3i]
        · have c3i : ¬ ((a[i].kids.length : Int) = b[i].kids.length) := by omega
          rw [if_neg fun e => c3 (by rw [(List.cons.inj e).1])]
          simp [b_ref19_Equal_1, hlt, hltb, h2, h2b, h3, h4, ine, c1, c2, c3, c3i]
      · rw [if_neg fun e => c2 (by rw [(List.cons.inj e).1])]
        simp [b_ref19_Equal_1, hlt, hltb, h2, h2b, h3, h4, ine, c1, c2]
    · rw [if_neg fun e => c1 (by rw [(List.cons.inj e).1])]
      simp [b_ref19_Equal_1, hlt, hltb, h2, h2b, h3, h4, ine, c1]
theorem ref19_Equal (a b : List Nd) (hn : a.length ≤ 4611686018427387904) (hk : ∀ n ∈ a, n.kids.length ≤ 4611686018427387904) (h : List Ob) : acw C n_ref19_Equal [treeV a, treeV b] h = some (.ret (.bool (decide (a = b))), h) := by
  refine acw_ex (v := .bool (decide (a = b))) (CT T_ref19_Equal) rfl rfl (fun _ => rfl) (by simp) ?_
  by_cases c : a.length = b.length
  · have ci : (a.length : Int) = b.length := by omega
    have lp := req_l1 a b c hn hk a.length 0 (by omega)
    simp only [List.drop_zero, Int.cast_ofNat_Int] at lp
    by_cases e : a = b
    · rw [if_pos e] at lp
      simp [runW_fin, F_ref19_Equal, i_ref19_Equal, ine, c, ci, lp, e]
      subst e
      simp [lp]
    · rw [if_neg e] at lp
      simp [runW_fin, F_ref19_Equal, i_ref19_Equal, ine, c, ci, lp, e]
  · have ci : ¬ ((a.length : Int) = b.length) := by omega
    have e : ¬ (a = b) := fun e => c (by rw [e])
    simp [runW_fin, F_ref19_Equal, i_ref19_Equal, ine, c, ci, e]
end Go.RR.M
set_option linter.unusedVariables false
set_option linter.unusedSimpArgs false
set_option maxRecDepth 100000
set_option maxHeartbeats 4000000
namespace Go.RR
mutual
def foldU (G : List Int → Int) : UT → Int
  | .nd _ _ cs => G (foldL G cs)
def foldL (G : List Int → Int) : List UT → List Int
  | [] => []
  | u :: r => foldU G u :: foldL G r
end
theorem foldL_map (G : List Int → Int) : ∀ l : List UT, foldL G l = l.map (foldU G)
  | [] => by rw [foldL]; rfl
  | u :: r => by rw [foldL, foldL_map G r]; rfl
theorem foldU_unf {G : List Int → Int} {t : List Nd} (ha : Ahd t) {i : Nat} (h : i < t.length) : foldU G (unf t i) = G (t[i].kids.map fun k => foldU G (unf t k.toNat)) := by
  rw [unf_eq ha h, foldU, foldL_map, List.map_map]
  rfl
def top : Int := 9223372036854775807
def sat (s x : Int) : Int := if top < s + x then top else s + x
def mxd (m x : Int) : Int := if m < x + 1 then x + 1 else m
def G1 (l : List Int) : Int := l.foldl sat 1
def G2 (l : List Int) : Int := l.foldl mxd 1
theorem sat_bound {s x : Int} (h1 : 1 ≤ s) (h2 : s ≤ top) (h3 : 1 ≤ x) : 1 ≤ sat s x ∧ sat s x ≤ top := by
  unfold sat
  split
  · exact ⟨by unfold top; omega, by omega⟩
  · omega
theorem satL_bound : ∀ (l : List Int) (s : Int), 1 ≤ s → s ≤ top → (∀ x ∈ l, 1 ≤ x) → 1 ≤ l.foldl sat s ∧ l.foldl sat s ≤ top
  | [], s, h1, h2, _ => ⟨h1, h2⟩
  | x :: r, s, h1, h2, h3 => by
    have := sat_bound h1 h2 (h3 x (by simp))
    exact satL_bound r _ this.1 this.2 fun y hy => h3 y (by simp [hy])
theorem satL_full : ∀ (l : List Int), (∀ x ∈ l, 1 ≤ x) → l.foldl sat top = top
  | [], _ => rfl
  | x :: r, h => by
    have : sat top x = top := by
      unfold sat
      have := h x (by simp)
      rw [if_pos (by omega)]
    rw [List.foldl_cons, this]
    exact satL_full r fun y hy => h y (by simp [hy])
theorem mxdL_bound (B : Int) : ∀ (l : List Int) (s : Int), 1 ≤ s → s ≤ B → (∀ x ∈ l, x + 1 ≤ B) → 1 ≤ l.foldl mxd s ∧ l.foldl mxd s ≤ B
  | [], s, h1, h2, _ => ⟨h1, h2⟩
  | x :: r, s, h1, h2, h3 => by
    have hx := h3 x (by simp)
    have : 1 ≤ mxd s x ∧ mxd s x ≤ B := by unfold mxd; split <;> omega
    exact mxdL_bound B r _ this.1 this.2 fun y hy => h3 y (by simp [hy])
theorem bound1 {t : List Nd} (ha : Ahd t) : ∀ (i : Nat), i < t.length → 1 ≤ foldU G1 (unf t i) ∧ foldU G1 (unf t i) ≤ top := by
  intro i
  induction i using Nat.strongRecOn with
  | _ i ih =>
    intro hi
    rw [foldU_unf ha hi]
    refine satL_bound _ 1 (by omega) (by unfold top; omega) fun x hx => ?_
    obtain ⟨k, hk, rfl⟩ := List.mem_map.1 hx
    have := ha i hi k hk
    exact (ih k.toNat (by omega) (by omega)).1
theorem bound2 {t : List Nd} (ha : Ahd t) : ∀ (i : Nat), i < t.length → 1 ≤ foldU G2 (unf t i) ∧ foldU G2 (unf t i) ≤ i + 1 := by
  intro i
  induction i using Nat.strongRecOn with
  | _ i ih =>
    intro hi
    rw [foldU_unf ha hi]
    refine mxdL_bound _ _ 1 (by omega) (by omega) fun x hx => ?_
    obtain ⟨k, hk, rfl⟩ := List.mem_map.1 hx
    have h1 := ha i hi k hk
    have h2 := (ih k.toNat (by omega) (by omega)).2
    omega
theorem mayF_at : ∀ (t : List Nd) (i : Nat), mayF i t = true → ∀ j (h : j < t.length), nodeOK (i + j) t[j] = true
  | [], i, _, j, h => by simp at h
  | n :: r, i, e, j, h => by
    simp only [mayF, Bool.and_eq_true] at e
    cases j with
    | zero => exact e.1
    | succ j =>
      have := mayF_at r (i + 1) e.2 j (by simpa using h)
      rw [show i + (j + 1) = i + 1 + j by omega]
      exact this
theorem mayF_of : ∀ (t : List Nd) (i : Nat), (∀ j (h : j < t.length), nodeOK (i + j) t[j] = true) → mayF i t = true
  | [], i, _ => rfl
  | n :: r, i, e => by
    simp only [mayF, Bool.and_eq_true]
    refine ⟨e 0 (by simp), mayF_of r (i + 1) fun j h => ?_⟩
    have := e (j + 1) (by simpa using h)
    rw [show i + 1 + j = i + (j + 1) by omega]
    exact this
theorem mayT_iff {t : List Nd} : mayT t = true ↔ 0 < t.length ∧ t.length ≤ 100000 ∧ ∀ j (h : j < t.length), nodeOK j t[j] = true := by
  simp only [mayT, Bool.and_eq_true, decide_eq_true_eq]
  constructor
  · rintro ⟨h1, h2, h3⟩
    exact ⟨h1, h2, fun j h => by have := mayF_at t 0 h3 j h; rwa [Nat.zero_add] at this⟩
  · rintro ⟨h1, h2, h3⟩
    exact ⟨h1, h2, mayF_of t 0 fun j h => by rw [Nat.zero_add]; exact h3 j h⟩
theorem nodeOK_iff {i : Nat} {n : Nd} : nodeOK i n = true ↔ fitsN n.kind n.pick n.kids.length = true ∧ ∀ k ∈ n.kids, 0 ≤ k ∧ k < i := by
  simp only [nodeOK, Bool.and_eq_true, Bool.not_eq_true', List.any_eq_false, badK, Bool.or_eq_true, decide_eq_true_eq]
  constructor
  · rintro ⟨h1, h2⟩
    exact ⟨h1, fun k hk => by have := h2 k hk; omega⟩
  · rintro ⟨h1, h2⟩
    exact ⟨h1, fun k hk => by have := h2 k hk; omega⟩
theorem fits_kids {k p : Int} {n : Nat} (h : fitsN k p n = true) : n ≤ 64 := by
  simp only [fitsN, Bool.or_eq_true, Bool.and_eq_true, decide_eq_true_eq] at h
  omega
theorem fits_kp {k p n : Int} (h : fitsN k p n = true) : 0 ≤ k ∧ k ≤ 2 ∧ 0 ≤ p ∧ p ≤ 63 := by
  simp only [fitsN, Bool.or_eq_true, Bool.and_eq_true, decide_eq_true_eq] at h
  omega
theorem mayT_len {t : List Nd} (h : mayT t = true) : 0 < t.length ∧ t.length ≤ 100000 := ⟨(mayT_iff.1 h).1, (mayT_iff.1 h).2.1⟩
theorem mayT_ahd {t : List Nd} (h : mayT t = true) : Ahd t := fun i hi => (nodeOK_iff.1 ((mayT_iff.1 h).2.2 i hi)).2
theorem mayT_fits {t : List Nd} (h : mayT t = true) : ∀ i (hi : i < t.length), fitsN t[i].kind t[i].pick t[i].kids.length = true := fun i hi => (nodeOK_iff.1 ((mayT_iff.1 h).2.2 i hi)).1
theorem mayT_kids {t : List Nd} (h : mayT t = true) : ∀ i (hi : i < t.length), t[i].kids.length ≤ 64 := fun i hi => fits_kids (mayT_fits h i hi)
/-- what the first nodes have -/
def vals (G : List Int → Int) (t : List Nd) (i : Nat) : List V := (List.range i).map fun j => iv (foldU G (unf t j))
theorem vals_len {G : List Int → Int} {t : List Nd} {i : Nat} : (vals G t i).length = i := by simp [vals]
theorem vals_get {G : List Int → Int} {t : List Nd} {i j : Nat} (h : j < i) : (vals G t i)[j]? = some (iv (foldU G (unf t j))) := by simp [vals, h]
theorem vals_succ {G : List Int → Int} {t : List Nd} {i : Nat} : vals G t (i + 1) = vals G t i ++ [iv (foldU G (unf t i))] := by simp [vals, List.range_succ]
theorem vals_zero {G : List Int → Int} {t : List Nd} : vals G t 0 = [] := rfl
end Go.RR
namespace Go.RR.M
open Go Go.RR
theorem sz_l0 (t : List Nd) (ha : Ahd t) (hl : t.length ≤ 100000) (i : Nat) (hi : i < t.length) (hk : t[i].kids.length ≤ 64) : ∀ (d j : Nat) (n D : Int), j + d = t[i].kids.length → 1 ≤ n → n ≤ top → 1 ≤ D → D ≤ 100001 →
    evw C y0 i_ref19_Sizes_l0 [(0, treeV t), (4, .own 0 0 i i), (5, .own 1 0 i i), (6, iv i), (7, iv n), (8, iv D), (9, iv j)] [.row 1 (vals G1 t i), .row 1 (vals G2 t i)] =
      some (.ext 2, [(0, treeV t), (4, .own 0 0 i i), (5, .own 1 0 i i), (6, iv i), (7, iv (((t[i].kids.drop j).map fun k => foldU G1 (unf t k.toNat)).foldl sat n)), (8, iv (((t[i].kids.drop j).map fun k => foldU G2 (unf t k.toNat)).foldl mxd D)), (9, iv t[i].kids.length), (26, .bool false)], [.row 1 (vals G1 t i), .row 1 (vals G2 t i)])
  | 0, j, n, D, e, hn1, hn2, hD1, hD2 => by
    obtain rfl : j = t[i].kids.length := by omega
    have h3 : t[i]? = some t[i] := by simp [hi]
    rw [r_ref19_Sizes_0]
    simp [b_ref19_Sizes_0, hi, h3]
  | d + 1, j, n, D, e, hn1, hn2, hD1, hD2 => by
    have hlt : j < t[i].kids.length := by omega
    have h2 : (j : Int) < t[i].kids.length := by omega
    have h3 : t[i]? = some t[i] := by simp [hi]
    have hw := wrap_succ (i := j) (n := t[i].kids.length) hlt (by omega)
    have hi2 : (i : Int) < t.length := by omega
    have hK := ha i hi t[i].kids[j] (List.getElem_mem hlt)
    obtain ⟨kn, hkn⟩ : ∃ kn : Nat, t[i].kids[j] = kn := ⟨t[i].kids[j].toNat, by omega⟩
    have h5 : t[i].kids[j]? = some (kn : Int) := by simp [hlt, hkn]
    have hk1 : kn < i := by omega
    have hk2 : (kn : Int) < i := by omega
    have b1 := bound1 ha kn (by omega)
    have b2 := bound2 ha kn (by omega)
    have g1 := vals_get (G := G1) (t := t) hk1
    have g2 := vals_get (G := G2) (t := t) hk1
    rw [r_ref19_Sizes_0, List.drop_eq_getElem_cons hlt, hkn]
    simp only [List.map_cons, List.foldl_cons, Int.toNat_natCast]
    have ih := sz_l0 t ha hl i hi hk d (j + 1) (sat n (foldU G1 (unf t kn))) (mxd D (foldU G2 (unf t kn))) (by omega) (sat_bound hn1 hn2 b1.1).1 (sat_bound hn1 hn2 b1.1).2 (by unfold mxd; split <;> omega) (by unfold mxd; split <;> omega)
    simp only [Int.natCast_add, Int.cast_ofNat_Int] at ih
    rw [← ih]
    generalize foldU G1 (unf t kn) = x at *
    generalize foldU G2 (unf t kn) = y at *
    unfold top at hn2 b1
    have w1 : IntKind.i64.wrap (9223372036854775807 - n) = 9223372036854775807 - n := wrap64 (by omega) (by omega)
    have w2 : IntKind.i64.wrap (y + 1) = y + 1 := wrap64 (by omega) (by omega)
    have l1 := vals_len (G := G1) (t := t) (i := i)
    have l2 := vals_len (G := G2) (t := t) (i := i)
    clear ih e
    generalize vals G1 t i = V1 at *
    generalize vals G2 t i = V2 at *
    have g3 : ∀ h : kn < V1.length, V1[kn]'h = iv x := fun _ => (List.getElem?_eq_some_iff.1 g1).2
    have g4 : ∀ h : kn < V2.length, V2[kn]'h = iv y := fun _ => (List.getElem?_eq_some_iff.1 g2).2
    by_cases c1 : 9223372036854775807 - n < x
    · have e1 : sat n x = 9223372036854775807 := by unfold sat top; rw [if_pos (by omega)]
      by_cases c2 : D < y + 1
      · have e2 : mxd D y = y + 1 := by unfold mxd; rw [if_pos c2]
        rw [e1, e2]
        simp [b_ref19_Sizes_0, h2, h3, hi, hi2, hlt, hkn, h5, hk1, hk2, g1, g2, g3, g4, l1, l2, w1, w2, hw, c1, c2]
      · have e2 : mxd D y = D := by unfold mxd; rw [if_neg c2]
        rw [e1, e2]
        simp [b_ref19_Sizes_0, h2, h3, hi, hi2, hlt, hkn, h5, hk1, hk2, g1, g2, g3, g4, l1, l2, w1, w2, hw, c1, c2]
    · have e1 : sat n x = n + x := by unfold sat top; rw [if_neg (by omega)]
      have w3 : IntKind.i64.wrap (n + x) = n + x := wrap64 (by omega) (by omega)
      by_cases c2 : D < y + 1
      · have e2 : mxd D y = y + 1 := by unfold mxd; rw [if_pos c2]
        rw [e1, e2]
        simp [b_ref19_Sizes_0, h2, h3, hi, hi2, hlt, hkn, h5, hk1, hk2, g1, g2, g3, g4, l1, l2, w1, w2, w3, hw, c1, c2]
      · have e2 : mxd D y = D := by unfold mxd; rw [if_neg c2]
        rw [e1, e2]
        simp [b_ref19_Sizes_0, h2, h3, hi, hi2, hlt, hkn, h5, hk1, hk2, g1, g2, g3, g4, l1, l2, w1, w2, w3, hw, c1, c2]
theorem sz_l1 (t : List Nd) (ha : Ahd t) (hl : t.length ≤ 100000) (hk : ∀ i (h : i < t.length), t[i].kids.length ≤ 64) : ∀ (d i : Nat), i + d = t.length →
    evw C y0 i_ref19_Sizes_l1 [(0, treeV t), (4, .own 0 0 i i), (5, .own 1 0 i i), (6, iv i)] [.row 1 (vals G1 t i), .row 1 (vals G2 t i)] =
      some (.ext 0, [(0, treeV t), (4, .own 0 0 t.length t.length), (5, .own 1 0 t.length t.length), (6, iv t.length), (16, .bool false)], [.row 1 (vals G1 t t.length), .row 1 (vals G2 t t.length)])
  | 0, i, e => by
    obtain rfl : i = t.length := by omega
    rw [r_ref19_Sizes_1]
    simp [b_ref19_Sizes_1]
  | d + 1, i, e => by
    have hlt : i < t.length := by omega
    have h2 : (i : Int) < t.length := by omega
    have hw := wrap_succ (i := i) (n := t.length) hlt (by omega)
    have ih := sz_l1 t ha hl hk d (i + 1) (by omega)
    have l0 := sz_l0 t ha hl i hlt (hk i hlt) t[i].kids.length 0 1 1 (by omega) (by omega) (by unfold top; omega) (by omega) (by omega)
    simp only [List.drop_zero, Int.cast_ofNat_Int] at l0
    rw [show ((t[i].kids.map fun k => foldU G1 (unf t k.toNat)).foldl sat 1) = foldU G1 (unf t i) from (foldU_unf ha hlt).symm, show ((t[i].kids.map fun k => foldU G2 (unf t k.toNat)).foldl mxd 1) = foldU G2 (unf t i) from (foldU_unf ha hlt).symm] at l0
    simp only [Int.natCast_add, Int.cast_ofNat_Int] at ih
    rw [vals_succ, vals_succ] at ih
    have l1 := vals_len (G := G1) (t := t) (i := i)
    have l2 := vals_len (G := G2) (t := t) (i := i)
    rw [r_ref19_Sizes_1, ← ih]
    generalize vals G1 t i = V1 at *
    generalize vals G2 t i = V2 at *
    generalize foldU G1 (unf t i) = x at *
    generalize foldU G2 (unf t i) = y at *
    have k1 : bsfL (.int .i64 0) [iv x] = some (.sl 1 [iv x]) := rfl
    have k2 : bsfL (.int .i64 0) [iv y] = some (.sl 1 [iv y]) := rfl
    have a1 : ∀ nid, appV nid [.row 1 V1, .row 1 V2] 1 8 (.own 0 0 i i) (.sl 1 [iv x]) = some (.own 0 0 (i + 1) (i + 1), some (0, .row 1 (V1 ++ [iv x]))) := fun nid => appV_own rfl (by omega) rfl (by simp) (by simp) (by omega) (by omega)
    have a2 : ∀ nid, appV nid [.row 1 (V1 ++ [iv x]), .row 1 V2] 1 8 (.own 1 0 i i) (.sl 1 [iv y]) = some (.own 1 0 (i + 1) (i + 1), some (1, .row 1 (V2 ++ [iv y]))) := fun nid => appV_own rfl (by omega) rfl (by simp) (by simp) (by omega) (by omega)
    simp [b_ref19_Sizes_1, h2, hlt, l0, k1, k2, a1, a2, hw]
theorem ref19_Sizes (t : List Nd) (hm : mayT t = true) (h : List Ob) : acw C n_ref19_Sizes [treeV t] h = some (.ret (.tup [.sl 1 (vals G1 t t.length), .sl 1 (vals G2 t t.length)]), h) := by
  have lp := sz_l1 t (mayT_ahd hm) (mayT_len hm).2 (mayT_kids hm) t.length 0 (by omega)
  simp only [vals_zero, Int.cast_ofNat_Int] at lp
  have z : ∀ G h n, mapO (frz h (n + 1)) (vals G t t.length) = some (vals G t t.length) := fun G h n => mapO_id fun x hx => by
    obtain ⟨a, -, rfl⟩ := List.mem_map.1 hx
    rfl
  have l1 := vals_len (G := G1) (t := t) (i := t.length)
  have l2 := vals_len (G := G2) (t := t) (i := t.length)
  refine acw_pure (a2 := [treeV t]) (h' := [.row 1 (vals G1 t t.length), .row 1 (vals G2 t t.length)]) (v := .tup [.own 0 0 t.length t.length, .own 1 0 t.length t.length]) (CT T_ref19_Sizes) rfl rfl ?_ ?_ (by simp)
  · simp [runW_fin, F_ref19_Sizes, i_ref19_Sizes, lp]
  · have e1 : (List.take t.length (vals G1 t t.length)) = vals G1 t t.length := List.take_of_length_le (by omega)
    have e2 : (List.take t.length (vals G2 t t.length)) = vals G2 t t.length := List.take_of_length_le (by omega)
    simp [fdepth, RR.frz, RR.elems, rowOf, e1, e2, l1, l2, z]
end Go.RR.M
set_option linter.unusedVariables false
set_option linter.unusedSimpArgs false
set_option maxRecDepth 100000
set_option maxHeartbeats 4000000
namespace Go.RR
def mx2 (m x : Int) : Int := if m < x then x else m
def mxL : List Int → Int
  | [] => 0
  | x :: r => r.foldl mx2 x
theorem mxd_mx2 : ∀ (l : List Int) (m : Int), l.foldl mxd (1 + m) = 1 + l.foldl mx2 m
  | [], m => rfl
  | x :: r, m => by
    rw [List.foldl_cons, List.foldl_cons, ← mxd_mx2 r (mx2 m x)]
    congr 1
    unfold mxd mx2
    split <;> split <;> omega
theorem mx2_ge : ∀ (l : List Int) (m : Int), m ≤ l.foldl mx2 m
  | [], m => by simp
  | x :: r, m => by
    have := mx2_ge r (mx2 m x)
    rw [List.foldl_cons]
    have h2 : m ≤ mx2 m x := by unfold mx2; split <;> omega
    omega
theorem G2_mx (ks : List Int) (h : ∀ x ∈ ks, 1 ≤ x) : G2 ks = 1 + mxL (ks ++ [0]) := by
  unfold G2
  rw [show (1 : Int) = 1 + 0 by rfl, mxd_mx2]
  congr 1
  cases ks with
  | nil => rfl
  | cons x r =>
    have hx := h x (by simp)
    have e1 : mx2 0 x = x := by unfold mx2; rw [if_pos (by omega)]
    have e2 := mx2_ge r x
    show (x :: r).foldl mx2 0 = (r ++ [0]).foldl mx2 x
    rw [List.foldl_cons, e1, List.foldl_append, List.foldl_cons, List.foldl_nil]
    obtain ⟨m, hm⟩ : ∃ m, m = r.foldl mx2 x := ⟨_, rfl⟩
    rw [← hm] at e2 ⊢
    unfold mx2
    rw [if_neg (by omega)]
end Go.RR
namespace Go.RR.M
open Go Go.RR
theorem max_loop (l : List Int) (hl : l.length ≤ 4611686018427387904) : ∀ (d i : Nat) (m : Int), i + d = l.length →
    evw C y0 i_slices_Max_sint_int_l0 [(0, intsV l), (3, iv m), (4, iv i)] [] = some (.ext 0, [(0, intsV l), (3, iv ((l.drop i).foldl mx2 m)), (4, iv l.length), (15, .bool false)], [])
  | 0, i, m, e => by
    obtain rfl : i = l.length := by omega
    rw [r_slices_Max_sint_int_0]
    simp [b_slices_Max_sint_int_0]
  | d + 1, i, m, e => by
    have hlt : i < l.length := by omega
    have h2 : (i : Int) < l.length := by omega
    have h3 : l[i]? = some l[i] := by simp [hlt]
    have hw := wrap_succ (i := i) (n := l.length) hlt (by omega)
    have ih := max_loop l hl d (i + 1) (mx2 m l[i]) (by omega)
    simp only [Int.natCast_add, Int.cast_ofNat_Int] at ih
    rw [r_slices_Max_sint_int_0, List.drop_eq_getElem_cons hlt, List.foldl_cons, ← ih]
    have e0 : mx2 m l[i] = if m < l[i] then l[i] else m := rfl
    simp [b_slices_Max_sint_int_0, h2, hlt, h3, hw, j_mxn, e0]
theorem slices_Max (l : List Int) (hl : l.length ≤ 4611686018427387904) (h0 : l ≠ []) {v : V} {h : List Ob} (hv : frz h fdepth v = some (intsV l)) : acw C n_slices_Max_sint_int [v] h = some (.ret (iv (mxL l)), h) := by
  refine acw_pure (a2 := [intsV l]) (h' := []) (v := iv (mxL l)) (CT T_slices_Max_sint_int) rfl ?_ ?_ rfl (by simp)
  · simp only [frzL, mapO_cons, hv, ob_some, mapO_nil]
  · have hp : 0 < l.length := List.length_pos_iff.2 h0
    have lp := max_loop l hl (l.length - 1) 1 l[0] (by omega)
    have e1 : (l.drop 1).foldl mx2 l[0] = mxL l := by
      cases l with
      | nil => exact absurd rfl h0
      | cons x r => rfl
    rw [e1] at lp
    simp only [Int.cast_ofNat_Int] at lp
    have h3 : l[0]? = some l[0] := by simp [hp]
    have c1 : ¬ ((l.length : Int) < 1) := by omega
    have c2 : (0 : Int) < l.length := by omega
    simp [runW_fin, F_slices_Max_sint_int, i_slices_Max_sint_int, c1, c2, hp, h3, lp]
theorem depth_1 (B : Nat) (h : List Ob) (v : V) (ks : List Int) (a : AccB B h v 1 (ks.map (V.int .i64))) (hk : ∀ x ∈ ks, 1 ≤ x ∧ x ≤ 100001) (hl : ks.length ≤ 1000000) (hB : B ≤ h.length) :
    ∃ h', acw C n_tree_Depth_1 [v] h = some (.ret (iv (G2 ks)), h') ∧ (∀ j, j < B → h'[j]? = h[j]?) ∧ h.length ≤ h'.length := by
  obtain ⟨v1, w, e1, e2, -, e4⟩ := a.app (b := 8) (y := .sl 1 [iv 0]) (ys := [iv 0]) hB rfl (by simp only [List.length_cons, List.length_nil, List.length_map]; omega) (by simp only [List.length_cons, List.length_nil, List.length_map]; omega)
  have e5 : AccB B (wr h w) v1 1 ((ks ++ [0]).map (V.int .i64)) := by simpa using e2
  have kz : frz (wr h w) fdepth v1 = some (intsV (ks ++ [0])) := e5.frz 11 (frz_ints _ _ _)
  have km := slices_Max (ks ++ [0]) (by simp; omega) (by simp) kz
  have hb := mxdL_bound 100002 ks 1 (by omega) (by omega) (fun x hx => by have := hk x hx; omega)
  have hg := G2_mx ks fun x hx => (hk x hx).1
  have hb2 : 1 ≤ G2 ks ∧ G2 ks ≤ 100002 := hb
  have w1 : IntKind.i64.wrap (1 + mxL (ks ++ [0])) = 1 + mxL (ks ++ [0]) := wrap64 (by omega) (by omega)
  refine ⟨wr h w, ?_, e4, wr_length _ _⟩
  have k4 : bsfL (.int .i64 0) [iv 0] = some (.sl 1 [iv 0]) := rfl
  rw [acw_hm (CT T_tree_Depth_1) rfl, hg]
  simp [runW_fin, F_tree_Depth_1, i_tree_Depth_1, k4, e1, km, w1]
theorem size_loop (l : List Int) (hl : l.length ≤ 1000000) (hk : ∀ x ∈ l, 1 ≤ x ∧ x ≤ top) : ∀ (d i : Nat) (s : Int), i + d = l.length → 1 ≤ s → s ≤ top →
    ∃ r, evw C y0 i_tree_Size_1_l0 [(3, iv s), (6, intsV l), (7, iv l.length), (8, iv i)] [] = some r ∧ ((r = (.ret, [(2, iv top)], []) ∧ (l.drop i).foldl sat s = top) ∨ r = (.ext 0, [(3, iv ((l.drop i).foldl sat s)), (6, intsV l), (7, iv l.length), (8, iv l.length), (9, .bool false)], []))
  | 0, i, s, e, h1, hs => by
    obtain rfl : i = l.length := by omega
    rw [r_tree_Size_1_0]
    refine ⟨_, ?_, .inr rfl⟩
    simp [b_tree_Size_1_0]
  | d + 1, i, s, e, h1, hs => by
    have hlt : i < l.length := by omega
    have h2 : (i : Int) < l.length := by omega
    have h3 : l[i]? = some l[i] := by simp [hlt]
    have hw := wrap_succ (i := i) (n := l.length) hlt (by omega)
    obtain ⟨k1, k2⟩ := hk l[i] (List.getElem_mem hlt)
    have sb := sat_bound h1 hs k1
    obtain ⟨r, ih, ir⟩ := size_loop l hl hk d (i + 1) (sat s l[i]) (by omega) sb.1 sb.2
    rw [List.drop_eq_getElem_cons hlt, List.foldl_cons]
    have k2' : l[i] ≤ 9223372036854775807 := k2
    have hs' : s ≤ 9223372036854775807 := hs
    have w1 : IntKind.i64.wrap (9223372036854775807 - l[i]) = 9223372036854775807 - l[i] := wrap64 (by omega) (by omega)
    by_cases c : 9223372036854775807 - l[i] < s
    · have e1 : sat s l[i] = top := by unfold sat top; rw [if_pos (by omega)]
      refine ⟨_, ?_, .inl ⟨rfl, ?_⟩⟩
      · rw [r_tree_Size_1_0]
        simp [b_tree_Size_1_0, h2, h3, hlt, w1, c]
        rfl
      · rw [e1]
        exact satL_full _ fun x hx => (hk x (List.mem_of_mem_drop hx)).1
    · have e1 : sat s l[i] = s + l[i] := by unfold sat top; rw [if_neg (by omega)]
      have w2 : IntKind.i64.wrap (s + l[i]) = s + l[i] := wrap64 (by omega) (by omega)
      refine ⟨r, ?_, ir⟩
      rw [e1] at ih
      simp only [Int.natCast_add, Int.cast_ofNat_Int] at ih
      rw [r_tree_Size_1_0, ← ih]
      simp [b_tree_Size_1_0, h2, h3, hlt, w1, w2, c, hw]
theorem size_1 (B : Nat) (h : List Ob) (v : V) (ks : List Int) (a : AccB B h v 1 (ks.map (V.int .i64))) (hk : ∀ x ∈ ks, 1 ≤ x ∧ x ≤ top) (hl : ks.length ≤ 1000000) :
    acw C n_tree_Size_1 [v] h = some (.ret (iv (G1 ks)), h) := by
  have kz : frz h fdepth v = some (intsV ks) := a.frz 11 (frz_ints _ _ _)
  obtain ⟨r, lp, hr⟩ := size_loop ks hl hk ks.length 0 1 (by omega) (by omega) (by unfold top; omega)
  simp only [List.drop_zero, Int.cast_ofNat_Int] at lp hr
  refine acw_pure (a2 := [intsV ks]) (h' := []) (v := iv (G1 ks)) (CT T_tree_Size_1) rfl ?_ ?_ rfl (by simp)
  · simp only [frzL, mapO_cons, kz, ob_some, mapO_nil]
  · rcases hr with ⟨rfl, e⟩ | rfl
    · have e' : G1 ks = top := e
      simp [runW_fin, F_tree_Size_1, i_tree_Size_1, lp, e']
    · have e' : ks.foldl sat 1 = G1 ks := rfl
      rw [e'] at lp
      simp [runW_fin, F_tree_Size_1, i_tree_Size_1, lp]
def kv (G : List Int → Int) (t : List Nd) (ks : List Int) : List Int := ks.map fun k => foldU G (unf t k.toNat)
theorem up_l0 (G : List Int → Int) (t : List Nd) (hl : t.length ≤ 100000) (i : Nat) (hi : i < t.length) (fv v5 : V) (h0 : List Ob) (B : Nat) (kids : List Int) (hn : kids.length ≤ 64) (hk : ∀ k ∈ kids, 0 ≤ k ∧ k < i) (hB : B ≤ h0.length) (A5 : i = 0 ∨ ∃ lid, v5 = .own lid 0 i i ∧ lid < B ∧ h0[lid]? = some (.row 1 (vals G t i))) :
    ∀ (d j : Nat) (v : V) (h : List Ob), j + d = kids.length → AccB B h v 1 ((kv G t (kids.take j)).map (V.int .i64)) → (∀ x, x < B → h[x]? = h0[x]?) → B ≤ h.length →
    ∃ v' h', evw C y0 i_tree_Tree_up_l0 [(1, fv), (5, v5), (8, v), (14, treeV t), (15, iv t.length), (16, iv i), (21, intsV kids), (22, iv kids.length), (23, iv j)] h = some (.ext 2, [(1, fv), (5, v5), (8, v'), (14, treeV t), (15, iv t.length), (16, iv i), (21, intsV kids), (22, iv kids.length), (23, iv kids.length), (24, .bool false)], h') ∧ AccB B h' v' 1 ((kv G t kids).map (V.int .i64)) ∧ (∀ x, x < B → h'[x]? = h0[x]?) ∧ B ≤ h'.length
  | 0, j, v, h, e, a, k0, kB => by
    obtain rfl : j = kids.length := by omega
    rw [r_tree_Tree_up_0]
    refine ⟨v, h, ?_, ?_, k0, kB⟩
    · simp [b_tree_Tree_up_0]
    · rwa [List.take_length] at a
  | d + 1, j, v, h, e, a, k0, kB => by
    have hlt : j < kids.length := by omega
    have h2 : (j : Int) < kids.length := by omega
    have hw := wrap_succ (i := j) (n := kids.length) hlt (by omega)
    have hK := hk kids[j] (List.getElem_mem hlt)
    obtain ⟨kn, hkn⟩ : ∃ kn : Nat, kids[j] = kn := ⟨kids[j].toNat, by omega⟩
    have h5 : kids[j]? = some (kn : Int) := by simp [hlt, hkn]
    have hk1 : kn < i := by omega
    have hk2 : (kn : Int) < i := by omega
    rcases A5 with A5 | ⟨lid, rfl, q1, q2⟩
    · omega
    have q3 : h[lid]? = some (.row 1 (vals G t i)) := by rw [k0 lid q1]; exact q2
    have g1 := vals_get (G := G) (t := t) hk1
    have l1 := vals_len (G := G) (t := t) (i := i)
    obtain ⟨V1, hV1⟩ : ∃ V1, V1 = vals G t i := ⟨_, rfl⟩
    rw [← hV1] at g1 l1 q3
    obtain ⟨x, hx⟩ : ∃ x, x = foldU G (unf t kn) := ⟨_, rfl⟩
    rw [← hx] at g1
    have g3 : ∀ h : kn < V1.length, V1[kn]'h = iv x := fun _ => (List.getElem?_eq_some_iff.1 g1).2
    obtain ⟨v1, w, e1, e2, -, e4⟩ := a.app (b := 8) (y := .sl 1 [iv x]) (ys := [iv x]) kB rfl (by simp [kv]; omega) (by simp [kv]; omega)
    have e5 : AccB B (wr h w) v1 1 ((kv G t (kids.take (j + 1))).map (V.int .i64)) := by
      rw [List.take_succ_eq_append_getElem hlt]
      simpa [kv, hkn, hx] using e2
    obtain ⟨v', h', ih, i2, i3, i4⟩ := up_l0 G t hl i hi fv (.own lid 0 i i) h0 B kids hn hk hB (.inr ⟨lid, rfl, q1, q2⟩) d (j + 1) v1 (wr h w) (by omega) e5 (fun y hy => by rw [e4 y hy, k0 y hy]) (Nat.le_trans kB (wr_length _ _))
    simp only [Int.natCast_add, Int.cast_ofNat_Int] at ih
    refine ⟨v', h', ?_, i2, i3, i4⟩
    have k4 : bsfL (.int .i64 0) [iv x] = some (.sl 1 [iv x]) := rfl
    rw [r_tree_Tree_up_0, ← ih]
    simp [b_tree_Tree_up_0, h2, hlt, h5, hkn, hk1, hk2, q3, g1, g3, l1, k4, e1, hw]
theorem up_l1 (G : List Int → Int) (f : Nat) (t : List Nd) (ha : Ahd t) (hl : t.length ≤ 100000) (hk : ∀ i (h : i < t.length), t[i].kids.length ≤ 64)
    (hf : ∀ (B : Nat) (h : List Ob) (v : V) (i : Nat) (hi : i < t.length), AccB B h v 1 ((kv G t t[i].kids).map (V.int .i64)) → B ≤ h.length → ∃ h', acw C f [v] h = some (.ret (iv (G (kv G t t[i].kids))), h') ∧ (∀ j, j < B → h'[j]? = h[j]?) ∧ h.length ≤ h'.length) :
    ∀ (d i : Nat) (v5 : V) (h : List Ob), i + d = t.length → AccB 0 h v5 1 (vals G t i) →
    ∃ v' h', evw C y0 i_tree_Tree_up_l1 [(1, .fn (.func f) [] []), (5, v5), (14, treeV t), (15, iv t.length), (16, iv i)] h = some (.ext 0, [(1, .fn (.func f) [] []), (5, v'), (14, treeV t), (15, iv t.length), (16, iv t.length), (17, .bool false)], h') ∧ AccB 0 h' v' 1 (vals G t t.length)
  | 0, i, v5, h, e, a => by
    obtain rfl : i = t.length := by omega
    rw [r_tree_Tree_up_1]
    refine ⟨v5, h, ?_, a⟩
    simp [b_tree_Tree_up_1]
  | d + 1, i, v5, h, e, a => by
    have hlt : i < t.length := by omega
    have h2 : (i : Int) < t.length := by omega
    have h3 : t[i]? = some t[i] := by simp [hlt]
    have hw := wrap_succ (i := i) (n := t.length) hlt (by omega)
    obtain ⟨h0, hh0⟩ : ∃ h0, h0 = h ++ [Ob.row 3 [nodeV t[i]]] := ⟨_, rfl⟩
    have a0 : AccB 0 h0 v5 1 (vals G t i) := by rw [hh0]; exact a.more
    have A5 : i = 0 ∨ ∃ lid, v5 = .own lid 0 i i ∧ lid < h0.length ∧ h0[lid]? = some (.row 1 (vals G t i)) := by
      rcases a0 with ⟨-, q⟩ | ⟨lid, -, q1, q2⟩
      · left
        have := vals_len (G := G) (t := t) (i := i)
        rw [q] at this
        simpa using this.symm
      · right
        rw [vals_len] at q1
        exact ⟨lid, q1, (List.getElem?_eq_some_iff.1 q2).1, q2⟩
    obtain ⟨v', h1, lp, a1, k1, kB⟩ := up_l0 G t hl i hlt (.fn (.func f) [] []) v5 h0 h0.length t[i].kids (hk i hlt) (ha i hlt) (Nat.le_refl _) A5 t[i].kids.length 0 (.nsl 1) h0 (by omega) .nil (fun _ _ => rfl) (Nat.le_refl _)
    simp only [Int.cast_ofNat_Int] at lp
    obtain ⟨h2', kf, k2, k3⟩ := hf h0.length h1 v' i hlt a1 kB
    have ev : G (kv G t t[i].kids) = foldU G (unf t i) := (foldU_unf ha hlt).symm
    rw [ev] at kf
    have a2 : AccB 0 h2' v5 1 (vals G t i) := a0.keep fun j r _ hj => by
      have hj2 := (List.getElem?_eq_some_iff.1 hj).1
      rw [k2 j hj2, k1 j hj2]
      exact hj
    obtain ⟨x, hx⟩ : ∃ x, x = foldU G (unf t i) := ⟨_, rfl⟩
    rw [← hx] at kf
    have vl := vals_len (G := G) (t := t) (i := i)
    obtain ⟨v1, w, e1, e2, -, -⟩ := a2.app (b := 8) (y := .sl 1 [iv x]) (ys := [iv x]) (by omega) rfl (by simp only [List.length_cons, List.length_nil]; omega) (by simp only [List.length_cons, List.length_nil]; omega)
    rw [hx, ← vals_succ] at e2
    obtain ⟨v2, h3', ih, i2⟩ := up_l1 G f t ha hl hk hf d (i + 1) v1 _ (by omega) e2
    simp only [Int.natCast_add, Int.cast_ofNat_Int] at ih
    refine ⟨v2, h3', ?_, i2⟩
    have k4 : bsfL (.int .i64 0) [iv x] = some (.sl 1 [iv x]) := rfl
    rw [hh0] at lp
    rw [r_tree_Tree_up_1, ← ih]
    simp [b_tree_Tree_up_1, h2, hlt, h3, lp, kf, k4, e1, hw]
theorem tree_up (G : List Int → Int) (f : Nat) (t : List Nd) (ht : t.length ≤ 4611686018427387904) 
    (hf : mayT t = true → ∀ (B : Nat) (h : List Ob) (v : V) (i : Nat) (hi : i < t.length), AccB B h v 1 ((kv G t t[i].kids).map (V.int .i64)) → B ≤ h.length → ∃ h', acw C f [v] h = some (.ret (iv (G (kv G t t[i].kids))), h') ∧ (∀ j, j < B → h'[j]? = h[j]?) ∧ h.length ≤ h'.length) (h : List Ob) :
    acw C n_tree_Tree_up [treeV t, .fn (.func f) [] []] h = some (.ret (iv (if mayT t = true then foldU G (unf t (t.length - 1)) else 0)), h) := by
  have km := tree_May t ht
  cases hm : mayT t with
  | false =>
    rw [hm] at km
    rw [if_neg (by simp)]
    refine acw_ex (v := iv 0) (CT T_tree_Tree_up) rfl rfl (fun _ => rfl) (by simp) ?_
    simp [runW_fin, F_tree_Tree_up, i_tree_Tree_up, km]
  | true =>
    rw [hm] at km
    rw [if_pos rfl]
    obtain ⟨p1, p2⟩ := mayT_len hm
    obtain ⟨v', h', lp, a⟩ := up_l1 G f t (mayT_ahd hm) p2 (mayT_kids hm) (hf hm) t.length 0 (.nsl 1) [] (by omega) .nil
    simp only [Int.cast_ofNat_Int] at lp
    refine acw_ex (v := iv (foldU G (unf t (t.length - 1)))) (CT T_tree_Tree_up) rfl rfl (fun _ => rfl) (by simp) ?_
    have vl := vals_len (G := G) (t := t) (i := t.length)
    rcases a with ⟨-, q⟩ | ⟨lid, -, rfl, q2⟩
    · rw [q] at vl
      simp at vl
      omega
    · rw [vl] at lp
      have g1 := vals_get (G := G) (t := t) (i := t.length) (j := t.length - 1) (by omega)
      generalize foldU G (unf t (t.length - 1)) = x at *
      obtain ⟨V1, hV1⟩ : ∃ V1, V1 = vals G t t.length := ⟨_, rfl⟩
      rw [← hV1] at g1 vl q2
      obtain ⟨m, hm2⟩ : ∃ m, t.length = m + 1 := ⟨t.length - 1, by omega⟩
      have w1 : IntKind.i64.wrap (m : Int) = m := wrap64 (by omega) (by omega)
      rw [hm2] at g1 lp vl
      simp only [Nat.add_sub_cancel] at g1
      have g3 : ∀ h : m < V1.length, V1[m]'h = iv x := fun _ => (List.getElem?_eq_some_iff.1 g1).2
      have w2 : ((m : Int) < m + 1) := by omega
      simp only [Int.natCast_add, Int.cast_ofNat_Int] at lp
      simp [runW_fin, F_tree_Tree_up, i_tree_Tree_up, km, hm2, lp, w1, w2, q2, g1, g3, vl]
def sizeT (t : List Nd) : Int := if mayT t = true then foldU G1 (unf t (t.length - 1)) else 0
def depthT (t : List Nd) : Int := if mayT t = true then foldU G2 (unf t (t.length - 1)) else 0
theorem tree_Size (t : List Nd) (ht : t.length ≤ 4611686018427387904) (h : List Ob) : acw C n_tree_Size [treeV t] h = some (.ret (iv (sizeT t)), h) := by
  have ku := tree_up G1 n_tree_Size_1 t ht (fun hm B h v i hi a hB => ⟨h, size_1 B h v _ a (fun x hx => by
    obtain ⟨k, hk, rfl⟩ := List.mem_map.1 hx
    have := mayT_ahd hm i hi k hk
    exact bound1 (mayT_ahd hm) k.toNat (by omega)) (by have := mayT_kids hm i hi; simp [kv]; omega), fun _ _ => rfl, Nat.le_refl _⟩)
  refine acw_ex (v := iv (sizeT t)) (CT T_tree_Size) rfl rfl (fun _ => rfl) (by simp) ?_
  unfold sizeT
  simp [runW_fin, F_tree_Size, i_tree_Size, ku]
theorem tree_Depth (t : List Nd) (ht : t.length ≤ 4611686018427387904) (h : List Ob) : acw C n_tree_Depth [treeV t] h = some (.ret (iv (depthT t)), h) := by
  have ku := tree_up G2 n_tree_Depth_1 t ht (fun hm B h v i hi a hB => depth_1 B h v _ a (fun x hx => by
    obtain ⟨k, hk, rfl⟩ := List.mem_map.1 hx
    have := mayT_ahd hm i hi k hk
    have l := (mayT_len hm).2
    have := bound2 (mayT_ahd hm) k.toNat (by omega)
    omega) (by have := mayT_kids hm i hi; simp [kv]; omega) hB)
  refine acw_ex (v := iv (depthT t)) (CT T_tree_Depth) rfl rfl (fun _ => rfl) (by simp) ?_
  unfold depthT
  simp [runW_fin, F_tree_Depth, i_tree_Depth, ku]
end Go.RR.M
set_option linter.unusedVariables false
set_option linter.unusedSimpArgs false
set_option maxRecDepth 100000
namespace Go.RR
open Go.Lib
theorem dec_byte : ∀ (u : Nat), ∀ c ∈ decDigits u, 48 ≤ c.toNat ∧ c.toNat ≤ 57 := by
  intro u
  induction u using Nat.strongRecOn with
  | _ u ih =>
    intro c hc
    rw [decDigits] at hc
    by_cases h : u < 10
    · rw [dif_pos h] at hc
      rw [List.mem_singleton.1 hc, UInt8.toNat_ofNat']
      omega
    · rw [dif_neg h] at hc
      rcases List.mem_append.1 hc with hc | hc
      · exact ih (u / 10) (by omega) c hc
      · rw [List.mem_singleton.1 hc, UInt8.toNat_ofNat']
        omega
def valB (l : List UInt8) : Nat := l.foldl (fun a c => a * 10 + (c.toNat - 48)) 0
theorem dec_val : ∀ (u : Nat), valB (decDigits u) = u := by
  intro u
  induction u using Nat.strongRecOn with
  | _ u ih =>
    rw [decDigits]
    by_cases h : u < 10
    · rw [dif_pos h]
      simp only [valB, List.foldl_cons, List.foldl_nil, UInt8.toNat_ofNat']
      omega
    · rw [dif_neg h]
      have := ih (u / 10) (by omega)
      unfold valB at this ⊢
      rw [List.foldl_append, this]
      simp only [List.foldl_cons, List.foldl_nil, UInt8.toNat_ofNat']
      omega
theorem dec_inj {a b : Nat} (h : decDigits a = decDigits b) : a = b := by rw [← dec_val a, h, dec_val]
theorem itoa_inj {a b : Int} (h : itoa a = itoa b) : a = b := by
  unfold itoa at h
  have no : ∀ (x y : Nat), (45 : UInt8) :: decDigits x ≠ decDigits y := fun x y e => by
    have := dec_byte y 45 (by rw [← e]; simp)
    simp at this
  split at h <;> split at h
  · have := dec_inj (List.cons.inj h).2
    omega
  · exact absurd h (no _ _)
  · exact absurd h.symm (no _ _)
  · have := dec_inj h
    omega
/-- a sign, or a digit -/
def dgt (c : UInt8) : Prop := c ≠ 32 ∧ c ≠ 40 ∧ c ≠ 41
theorem itoa_dgt (n : Int) : ∀ c ∈ itoa n, dgt c := by
  have key : ∀ u, ∀ c ∈ decDigits u, dgt c := fun u c hc => by
    have := dec_byte u c hc
    refine ⟨?_, ?_, ?_⟩ <;> (intro e; subst e; simp at this)
  intro c hc
  unfold itoa at hc
  split at hc
  · rcases List.mem_cons.1 hc with rfl | hc
    · unfold dgt; decide
    · exact key _ c hc
  · exact key _ c hc
theorem cutB {P : UInt8 → Prop} : ∀ {a b X Y : List UInt8}, (∀ c ∈ a, P c) → (∀ c ∈ b, P c) → (∀ x ∈ X.head?, ¬ P x) → (∀ x ∈ Y.head?, ¬ P x) → a ++ X = b ++ Y → a = b ∧ X = Y
  | [], [], X, Y, _, _, _, _, h => ⟨rfl, h⟩
  | [], y :: b, X, Y, _, hb, hX, _, h => by
    have h : X = y :: (b ++ Y) := h
    exact absurd (hb y (by simp)) (hX y (by rw [h]; rfl))
  | x :: a, [], X, Y, ha, _, _, hY, h => by
    have h : x :: (a ++ X) = Y := h
    exact absurd (ha x (by simp)) (hY x (by rw [← h]; rfl))
  | x :: a, y :: b, X, Y, ha, hb, hX, hY, h => by
    have h : x :: (a ++ X) = y :: (b ++ Y) := h
    obtain ⟨h1, h2⟩ := List.cons.inj h
    obtain ⟨h3, h4⟩ := cutB (fun c hc => ha c (by simp [hc])) (fun c hc => hb c (by simp [hc])) hX hY h2
    exact ⟨by rw [h1, h3], h4⟩
def tlB : List Int → List UInt8
  | [] => []
  | k :: r => 32 :: (itoa k ++ tlB r)
theorem catB_eq : ∀ (l : List Int) (b : List UInt8), catB b l = b ++ tlB l
  | [], b => by simp [catB, tlB]
  | k :: r, b => by
    have := catB_eq r (b ++ (32 :: itoa k))
    unfold catB at this ⊢
    rw [List.foldl_cons, this, tlB]
    simp
theorem tlB_head (l : List Int) : ∀ x ∈ (tlB l).head?, ¬ dgt x := by
  cases l with
  | nil => simp [tlB]
  | cons k r => intro x hx; simp [tlB] at hx; subst hx; unfold dgt; decide
theorem tlB_inj : ∀ {a b : List Int}, tlB a = tlB b → a = b
  | [], [], _ => rfl
  | [], y :: b, h => by simp [tlB] at h
  | x :: a, [], h => by simp [tlB] at h
  | x :: a, y :: b, h => by
    obtain ⟨h1, h2⟩ := cutB (itoa_dgt x) (itoa_dgt y) (tlB_head a) (tlB_head b) (List.cons.inj h).2
    rw [itoa_inj h1, tlB_inj h2]
theorem textB_inj {k p k' p' : Int} {l l' : List Int} (h : textB k p l = textB k' p' l') : k = k' ∧ p = p' ∧ l = l' := by
  unfold textB at h
  rw [catB_eq, catB_eq] at h
  simp only [List.append_assoc] at h
  have z : ∀ x ∈ ([32] : List UInt8).head?, ¬ dgt x := by intro x hx; simp at hx; subst hx; unfold dgt; decide
  obtain ⟨h1, h2⟩ := cutB (itoa_dgt k) (itoa_dgt k') (X := [32] ++ (itoa p ++ tlB l)) (Y := [32] ++ (itoa p' ++ tlB l')) (by intro x hx; exact z x (by simpa using hx)) (by intro x hx; exact z x (by simpa using hx)) h
  obtain ⟨h3, h4⟩ := cutB (itoa_dgt p) (itoa_dgt p') (tlB_head l) (tlB_head l') (List.cons.inj h2).2
  exact ⟨itoa_inj h1, itoa_inj h3, tlB_inj h4⟩
mutual
def txtU : UT → List UInt8
  | .nd k p cs => 40 :: (itoa k ++ 32 :: (itoa p ++ (txtL cs ++ [41])))
def txtL : List UT → List UInt8
  | [] => []
  | u :: r => txtU u ++ txtL r
end
theorem txtU_head (u : UT) : ∃ r, txtU u = 40 :: r := by
  cases u with
  | nd k p cs => rw [txtU]; exact ⟨_, rfl⟩
theorem txtL_head (l : List UT) (X : List UInt8) : ∀ x ∈ (txtL l ++ 41 :: X).head?, ¬ dgt x := by
  cases l with
  | nil => intro x hx; simp [txtL] at hx; subst hx; unfold dgt; decide
  | cons u r =>
    obtain ⟨q, e⟩ := txtU_head u
    intro x hx
    rw [txtL, e] at hx
    simp at hx
    subst hx
    unfold dgt
    decide
mutual
theorem txtU_cut : ∀ (u v : UT) (X Y : List UInt8), txtU u ++ X = txtU v ++ Y → u = v ∧ X = Y
  | .nd k p cs, .nd k' p' cs', X, Y, h => by
    rw [txtU, txtU] at h
    simp only [List.cons_append, List.append_assoc, List.nil_append, List.cons.injEq, true_and] at h
    have z : ∀ (W : List UInt8), ∀ x ∈ ((32 : UInt8) :: W).head?, ¬ dgt x := by intro W x hx; simp at hx; subst hx; unfold dgt; decide
    obtain ⟨h1, h2⟩ := cutB (itoa_dgt k) (itoa_dgt k') (z _) (z _) h
    obtain ⟨h3, h4⟩ := cutB (itoa_dgt p) (itoa_dgt p') (txtL_head cs X) (txtL_head cs' Y) (List.cons.inj h2).2
    obtain ⟨h5, h6⟩ := txtL_cut cs cs' X Y h4
    exact ⟨by rw [itoa_inj h1, itoa_inj h3, h5], h6⟩
theorem txtL_cut : ∀ (us vs : List UT) (X Y : List UInt8), txtL us ++ 41 :: X = txtL vs ++ 41 :: Y → us = vs ∧ X = Y
  | [], [], X, Y, h => ⟨rfl, by simpa [txtL] using h⟩
  | [], v :: vs, X, Y, h => by
    obtain ⟨q, e⟩ := txtU_head v
    rw [txtL, txtL, e] at h
    simp at h
  | u :: us, [], X, Y, h => by
    obtain ⟨q, e⟩ := txtU_head u
    rw [txtL, txtL, e] at h
    simp at h
  | u :: us, v :: vs, X, Y, h => by
    rw [txtL, txtL, List.append_assoc, List.append_assoc] at h
    obtain ⟨h1, h2⟩ := txtU_cut u v _ _ h
    obtain ⟨h3, h4⟩ := txtL_cut us vs X Y h2
    exact ⟨by rw [h1, h3], h4⟩
end
theorem txtU_inj {u v : UT} (h : txtU u = txtU v) : u = v := (txtU_cut u v [] [] (by simpa using h)).1
end Go.RR
set_option linter.unusedVariables false
set_option linter.unusedSimpArgs false
set_option maxRecDepth 100000
namespace Go.RR
/-- trees with all their kids -/
def Cl (L : List UT) : Prop := ∀ k p cs, UT.nd k p cs ∈ L → ∀ c ∈ cs, c ∈ L
/-- all that is left is of these trees -/
def Sub (L : List UT) (out : List Nd) : Prop := ∀ i, i < out.length → unf out i ∈ L
theorem nodup_sub {α : Type} : ∀ (xs L : List α), xs.Nodup → (∀ x ∈ xs, x ∈ L) → xs.length ≤ L.length
  | [], L, _, _ => by simp
  | x :: r, L, hn, h => by
    obtain ⟨a, b, rfl⟩ := List.append_of_mem (h x (by simp))
    have hn := List.nodup_cons.1 hn
    have := nodup_sub r (a ++ b) hn.2 fun y hy => by
      have h2 := h y (by simp [hy])
      rcases List.mem_append.1 h2 with h3 | h3
      · exact List.mem_append_left _ h3
      · rcases List.mem_cons.1 h3 with h4 | h4
        · subst h4; exact absurd hy hn.1
        · exact List.mem_append_right _ h4
    simp only [List.length_append, List.length_cons] at this ⊢
    omega
theorem Sub.len {L : List UT} {out : List Nd} (g : Good out) (s : Sub L out) : out.length ≤ L.length := by
  have := nodup_sub ((List.range out.length).map (unf out)) L (by
    refine List.Pairwise.map (R := fun a b => a < b ∧ b < out.length) _ (fun a b h e => ?_) ?_
    · have := Good.inj g out.length a b (by omega) (by omega) (by omega) (by omega) e
      omega
    · refine List.Pairwise.imp_of_mem (R := (· < ·)) (fun {a b} ha hb h => ⟨h, List.mem_range.1 hb⟩) List.pairwise_lt_range) (fun x hx => by
    obtain ⟨i, hi, rfl⟩ := List.mem_map.1 hx
    exact s i (List.mem_range.1 hi))
  simpa using this
mutual
theorem shU_sub (L : List UT) (hc : Cl L) : ∀ (u : UT) (out : List Nd), Good out → Sub L out → u ∈ L → Sub L (shU u out).1
  | .nd k p cs, out, g, s, hu => by
    have s1 := shL_sub L hc cs out g s (hc k p cs hu)
    obtain ⟨g1, -, h2, -⟩ := shL_spec cs out g
    obtain ⟨g2, -, h3, h4⟩ := shU_spec (.nd k p cs) out g
    obtain ⟨-, ⟨e, he⟩, -⟩ := putN_spec (n := ⟨k, p, (shL cs out).2⟩) g1 h2
    intro i hi
    by_cases c : i < (shL cs out).1.length
    · have e1 : (shU (.nd k p cs) out).1 = (shL cs out).1 ++ e := by rw [shU]; exact he
      have g2 := g2.ahd
      rw [e1] at g2 ⊢
      rw [unf_pre g2 i c]
      exact s1 i c
    · have : i = (shU (.nd k p cs) out).2 := by
        rw [shU] at h3 hi ⊢
        unfold putN at h3 hi ⊢
        split at h3
        · rename_i j hj
          simp only [hj] at hi ⊢
          omega
        · rename_i hj
          simp only [hj, List.length_append, List.length_singleton] at hi ⊢
          omega
      rw [this, h4]
      exact hu
theorem shL_sub (L : List UT) (hc : Cl L) : ∀ (cs : List UT) (out : List Nd), Good out → Sub L out → (∀ c ∈ cs, c ∈ L) → Sub L (shL cs out).1
  | [], out, g, s, h => by rw [shL]; exact s
  | u :: r, out, g, s, h => by
    have s1 := shU_sub L hc u out g s (h u (by simp))
    have g1 := (shU_spec u out g).1
    have := shL_sub L hc r (shU u out).1 g1 s1 fun c hc => h c (by simp [hc])
    rw [shL]
    exact this
end
/-- all trees of some nodes -/
def alls (t : List Nd) : List UT := (List.range t.length).map (unf t)
theorem alls_cl {t : List Nd} (ha : Ahd t) : Cl (alls t) := by
  intro k p cs h c hc
  obtain ⟨i, hi, e⟩ := List.mem_map.1 h
  have hi := List.mem_range.1 hi
  rw [unf_eq ha hi] at e
  injection e with e1 e2 e3
  subst e3
  obtain ⟨m, hm, rfl⟩ := List.mem_map.1 hc
  have := ha i hi m hm
  exact List.mem_map.2 ⟨m.toNat, List.mem_range.2 (by omega), rfl⟩
theorem alls_mem {t : List Nd} {i : Nat} (h : i < t.length) : unf t i ∈ alls t := List.mem_map.2 ⟨i, List.mem_range.2 h, rfl⟩
theorem alls_len {t : List Nd} : (alls t).length = t.length := by simp [alls]
theorem Cl.app {L M : List UT} (a : Cl L) (b : Cl M) : Cl (L ++ M) := fun k p cs h c hc => by
  rcases List.mem_append.1 h with h | h
  · exact List.mem_append_left _ (a k p cs h c hc)
  · exact List.mem_append_right _ (b k p cs h c hc)
theorem Sub.nil {L : List UT} : Sub L [] := fun i h => by simp at h
/-- what is put in, by what stands there -/
theorem put_in {k p : Int} {cs : List UT} {out : List Nd} (g : Good out) {m : Nat} (hm : m < (shL cs out).1.length) (e : unf (shL cs out).1 m = .nd k p cs) : shU (.nd k p cs) out = ((shL cs out).1, m) := by
  obtain ⟨g1, -, h2, h3⟩ := shL_spec cs out g
  have e1 := shL_in cs (shL cs out).1 (shL cs out).2 g1 h2 h3
  have e2 := shU_in (.nd k p cs) (shL cs out).1 m g1 hm e
  rw [shU, e1] at e2
  rw [shU]
  exact e2
theorem put_new {k p : Int} {cs : List UT} {out : List Nd} (g : Good out) (e : ∀ m, m < (shL cs out).1.length → unf (shL cs out).1 m ≠ .nd k p cs) : shU (.nd k p cs) out = ((shL cs out).1 ++ [⟨k, p, (shL cs out).2⟩], (shL cs out).1.length) := by
  obtain ⟨g1, -, h2, h3⟩ := shL_spec cs out g
  rw [shU]
  unfold putN
  cases h : (shL cs out).1.findIdx? (fun m => decide (m = ⟨k, p, (shL cs out).2⟩)) with
  | none => rfl
  | some i =>
    obtain ⟨q1, q2, -⟩ := List.findIdx?_eq_some_iff_getElem.1 h
    refine absurd ?_ (e i q1)
    rw [unf_eq g1.ahd q1, of_decide_eq_true q2]
    simp only [h3]
/-- the texts of what is left -/
def txs (out : List Nd) : List V := (List.range out.length).map fun j => .str (txtU (unf out j))
theorem txs_len {out : List Nd} : (txs out).length = out.length := by simp [txs]
theorem txs_get {out : List Nd} {j : Nat} (h : j < out.length) : (txs out)[j]? = some (.str (txtU (unf out j))) := by simp [txs, h]
theorem txs_app {out : List Nd} {n : Nd} (h : Ahd (out ++ [n])) : txs (out ++ [n]) = txs out ++ [.str (txtU (unf (out ++ [n]) out.length))] := by
  unfold txs
  rw [List.length_append, List.length_singleton, List.range_succ, List.map_append, List.map_singleton]
  congr 1
  refine List.map_congr_left fun j hj => ?_
  rw [unf_pre h j (List.mem_range.1 hj)]
def slN (z : Nat) (xs : List V) : V := if xs = [] then .nsl z else .sl z xs
theorem Ahd.mem {t : List Nd} {i : Nat} (ha : Ahd t) (hi : i < t.length) : unf t i = .nd t[i].kind t[i].pick (t[i].kids.map fun k => unf t k.toNat) := unf_eq ha hi
end Go.RR
set_option linter.unusedVariables false
set_option linter.unusedSimpArgs false
set_option maxRecDepth 100000
set_option maxHeartbeats 4000000
namespace Go.RR.M
open Go Go.RR Go.Lib
theorem strV1 (n : Nat) (h : n < 256) : strV [V.int .u8 (n : Int)] = some [UInt8.ofNat n] := by
  have e : (n : Int).toNat = n := Int.toNat_natCast n
  simp [strV, h]
theorem digits1 (u : Nat) (h : u < 10) (hh : List Ob) : acw C n_ref19_digits [iv u] hh = some (.ret (.str (itoa u)), hh) := by
  refine acw_ex (v := .str (itoa u)) (CT T_ref19_digits) rfl rfl (fun _ => rfl) (by simp) ?_
  have e : itoa (u : Int) = [UInt8.ofNat (48 + u)] := by
    unfold itoa
    rw [if_neg (by omega), Int.toNat_natCast, decDigits_one h]
  have c : (u : Int) < 10 := by omega
  have w1 : IntKind.i64.wrap (48 + (u : Int)) = 48 + u := wrap64 (by omega) (by omega)
  have w2 : IntKind.u8.wrap (48 + (u : Int)) = 48 + u := by
    show (48 + (u : Int)) % 256 = _
    omega
  have s1 := strV1 (48 + u) (by omega)
  rw [e]
  generalize UInt8.ofNat (48 + u) = b at *
  simp only [Int.natCast_add, Int.cast_ofNat_Int] at s1
  simp [runW_fin, F_ref19_digits, i_ref19_digits, c, h, w1, w2, elems, rowOf, s1]
theorem ref19_digits (u : Nat) (h : u < 100) (hh : List Ob) : acw C n_ref19_digits [iv u] hh = some (.ret (.str (itoa u)), hh) := by
  by_cases h1 : u < 10
  · exact digits1 u h1 hh
  · refine acw_ex (v := .str (itoa u)) (CT T_ref19_digits) rfl rfl (fun _ => rfl) (by simp) ?_
    have k1 := digits1 (u / 10) (by omega)
    have k2 := digits1 (u % 10) (by omega)
    have e1 : ∀ v : Nat, v < 10 → itoa (v : Int) = [UInt8.ofNat (48 + v)] := fun v hv => by
      unfold itoa
      rw [if_neg (by omega), Int.toNat_natCast, decDigits_one hv]
    have e : itoa (u : Int) = itoa ((u / 10 : Nat) : Int) ++ itoa ((u % 10 : Nat) : Int) := by
      rw [e1 (u / 10) (by omega), e1 (u % 10) (by omega)]
      unfold itoa
      rw [if_neg (by omega), Int.toNat_natCast, decDigits_two h1 h]
      rfl
    have c : ¬ ((u : Int) < 10) := by omega
    have w1 : IntKind.i64.wrap ((u : Int) / 10) = (u : Int) / 10 := wrap64 (by omega) (by omega)
    have w2 : IntKind.i64.wrap ((u : Int) % 10) = (u : Int) % 10 := wrap64 (by omega) (by omega)
    have t1 : (u : Int).tdiv 10 = (u : Int) / 10 := by simp [Int.tdiv]
    have t2 : (u : Int).tmod 10 = (u : Int) % 10 := by simp [Int.tmod]
    rw [e]
    simp only [Int.natCast_ediv, Int.natCast_emod, Int.cast_ofNat_Int] at k1 k2 ⊢
    have hl : (itoa ((u : Int) / 10)).length + (itoa ((u : Int) % 10)).length ≤ 4611686018427387904 := by
      have a1 := Go.Lib.itoa_length_le ((u : Int) / 10) (by omega) (by omega)
      have a2 := Go.Lib.itoa_length_le ((u : Int) % 10) (by omega) (by omega)
      omega
    generalize itoa ((u : Int) / 10) = A at *
    generalize itoa ((u : Int) % 10) = B at *
    simp [runW_fin, F_ref19_digits, i_ref19_digits, c, h1, t1, t2, w1, w2, k1, k2, hl]
end Go.RR.M
set_option linter.unusedVariables false
set_option linter.unusedSimpArgs false
set_option maxRecDepth 100000
set_option maxHeartbeats 4000000
namespace Go.RR.M
open Go Go.RR Go.Lib
theorem rw_l1a (x0 x1 x3 x13 : V) (X : List V) (s : List UInt8) (h : List Ob) (m : Nat) (hX : X.length ≤ 1000000) (hm : X[m]? = some (.str s)) (hj : ∀ j, j < m → ∃ a, X[j]? = some (.str a) ∧ a ≠ s) : ∀ (d j : Nat), j + d = m →
    evw C y0 i_ref19_walk_l1 [(0, x0), (1, x1), (2, .sl 1 X), (3, x3), (12, .str s), (13, x13), (17, iv j)] h = some (.ret, [(8, .str s), (9, .sl 1 X), (10, x3), (11, iv m)], h)
  | 0, j, e => by
    obtain rfl : j = m := by omega
    have hlt := (List.getElem?_eq_some_iff.1 hm).1
    have h2 : (j : Int) < X.length := by omega
    have h3 : ∀ h : j < X.length, X[j]'h = .str s := fun _ => (List.getElem?_eq_some_iff.1 hm).2
    rw [r_ref19_walk_1]
    simp [b_ref19_walk_1, hlt, h2, hm, h3]
  | d + 1, j, e => by
    have hlt0 := (List.getElem?_eq_some_iff.1 hm).1
    have hlt : j < X.length := by omega
    have h2 : (j : Int) < X.length := by omega
    obtain ⟨a, ha, hne⟩ := hj j (by omega)
    have h3 : ∀ h : j < X.length, X[j]'h = .str a := fun _ => (List.getElem?_eq_some_iff.1 ha).2
    have hw := wrap_succ (i := j) (n := X.length) hlt (by omega)
    have ih := rw_l1a x0 x1 x3 x13 X s h m hX hm hj d (j + 1) (by omega)
    simp only [Int.natCast_add, Int.cast_ofNat_Int] at ih
    have hb : (a == s) = false := by simpa using hne
    rw [r_ref19_walk_1, ← ih]
    simp [b_ref19_walk_1, hlt, h2, ha, h3, hne, hb, hw]
theorem rw_l1b (x0 x1 x3 x13 : V) (X : List V) (s : List UInt8) (h : List Ob) (hX : X.length ≤ 1000000) (hj : ∀ j, j < X.length → ∃ a, X[j]? = some (.str a) ∧ a ≠ s) : ∀ (d j : Nat), j + d = X.length →
    evw C y0 i_ref19_walk_l1 [(0, x0), (1, x1), (2, .sl 1 X), (3, x3), (12, .str s), (13, x13), (17, iv j)] h = some (.ext 2, [(0, x0), (1, x1), (2, .sl 1 X), (3, x3), (12, .str s), (13, x13), (17, iv X.length), (73, .bool false)], h)
  | 0, j, e => by
    obtain rfl : j = X.length := by omega
    rw [r_ref19_walk_1]
    simp [b_ref19_walk_1]
  | d + 1, j, e => by
    have hlt : j < X.length := by omega
    have h2 : (j : Int) < X.length := by omega
    obtain ⟨a, ha, hne⟩ := hj j (by omega)
    have h3 : ∀ h : j < X.length, X[j]'h = .str a := fun _ => (List.getElem?_eq_some_iff.1 ha).2
    have hw := wrap_succ (i := j) (n := X.length) hlt (by omega)
    have ih := rw_l1b x0 x1 x3 x13 X s h hX hj d (j + 1) (by omega)
    simp only [Int.natCast_add, Int.cast_ofNat_Int] at ih
    have hb : (a == s) = false := by simpa using hne
    rw [r_ref19_walk_1, ← ih]
    simp [b_ref19_walk_1, hlt, h2, ha, h3, hne, hb, hw]
/-- what the walk does at a node -/
def RWat (t : List Nd) (L : List UT) (k : Nat) : Prop := ∀ (out : List Nd) (h : List Ob), Good out → Sub L out →
  acw C n_ref19_walk [treeV t, iv k, .sl 1 (txs out), treeV out] h = some (.ret (.tup [.str (txtU (unf t k)), .sl 1 (txs (shU (unf t k) out).1), treeV (shU (unf t k) out).1, iv (shU (unf t k) out).2]), h)
theorem rw_l0 (t : List Nd) (L : List UT) (hL : L.length ≤ 1000000) (hc : Cl L) (htl : ∀ j, j < t.length → unf t j ∈ L) (i : Nat) (hi : i < t.length) (hk : ∀ k ∈ t[i].kids, 0 ≤ k ∧ k < i) (hkl : t[i].kids.length ≤ 64) (hw : ∀ k : Nat, (k : Int) ∈ t[i].kids → RWat t L k) :
    ∀ (d j : Nat) (out : List Nd) (s : List UInt8) (ks : List Int) (tl : List Ob), j + d = t[i].kids.length → Good out → Sub L out → ks.length ≤ j → s.length + (txtL ((t[i].kids.drop j).map fun k => unf t k.toNat)).length ≤ 1000000000 →
    ∃ tl', evw C y0 i_ref19_walk_l0 [(0, treeV t), (1, iv i), (2, .sl 1 (txs out)), (3, treeV out), (12, .str s), (13, .own 0 0 ks.length ks.length), (14, iv j)] (.row 1 (ks.map (V.int .i64)) :: tl) =
      some (.ext 0, [(0, treeV t), (1, iv i), (2, .sl 1 (txs (shL ((t[i].kids.drop j).map fun k => unf t k.toNat) out).1)), (3, treeV (shL ((t[i].kids.drop j).map fun k => unf t k.toNat) out).1), (12, .str (s ++ txtL ((t[i].kids.drop j).map fun k => unf t k.toNat))), (13, .own 0 0 (ks ++ (shL ((t[i].kids.drop j).map fun k => unf t k.toNat) out).2).length (ks ++ (shL ((t[i].kids.drop j).map fun k => unf t k.toNat) out).2).length), (14, iv t[i].kids.length), (41, .bool false)], .row 1 ((ks ++ (shL ((t[i].kids.drop j).map fun k => unf t k.toNat) out).2).map (V.int .i64)) :: tl')
  | 0, j, out, s, ks, tl, e, g, sb, hks, hs => by
    obtain rfl : j = t[i].kids.length := by omega
    have h3 : t[i]? = some t[i] := by simp [hi]
    rw [r_ref19_walk_0, List.drop_length]
    refine ⟨tl, ?_⟩
    simp [b_ref19_walk_0, hi, h3, shL, txtL]
  | d + 1, j, out, s, ks, tl, e, g, sb, hks, hs => by
    have hlt : j < t[i].kids.length := by omega
    have h2 : (j : Int) < t[i].kids.length := by omega
    have h3 : t[i]? = some t[i] := by simp [hi]
    have hw1 := wrap_succ (i := j) (n := t[i].kids.length) hlt (by omega)
    have hK := hk t[i].kids[j] (List.getElem_mem hlt)
    obtain ⟨kn, hkn⟩ : ∃ kn : Nat, t[i].kids[j] = kn := ⟨t[i].kids[j].toNat, by omega⟩
    have h5 : t[i].kids[j]? = some (kn : Int) := by simp [hlt, hkn]
    have hi2 : (i : Int) < t.length := by omega
    have kw := hw kn (by rw [← hkn]; exact List.getElem_mem hlt) out
    have hmem := htl kn (by omega)
    obtain ⟨g1, -, -, -⟩ := shU_spec (unf t kn) out g
    have sb1 := shU_sub L hc (unf t kn) out g sb hmem
    rw [List.drop_eq_getElem_cons hlt, hkn, List.map_cons, Int.toNat_natCast] at hs ⊢
    rw [txtL, List.length_append] at hs
    obtain ⟨tl', ih⟩ := rw_l0 t L hL hc htl i hi hk hkl hw d (j + 1) (shU (unf t kn) out).1 (s ++ txtU (unf t kn)) (ks ++ [((shU (unf t kn) out).2 : Int)]) (tl ++ [.row 1 [iv (shU (unf t kn) out).2]]) (by omega) g1 sb1 (by simp; omega) (by rw [List.length_append]; omega)
    refine ⟨tl', ?_⟩
    rw [shL, txtL]
    simp only [← List.append_assoc]
    rw [List.append_cons ks]
    simp only [Int.natCast_add, Int.cast_ofNat_Int] at ih
    rw [r_ref19_walk_0, ← ih]
    have kw := fun h => kw h g sb
    have c1 : s.length + (txtU (unf t kn)).length ≤ 4611686018427387904 := by omega
    generalize shU (unf t kn) out = so at *
    obtain ⟨o1, n⟩ := so
    simp only at kw
    generalize txtU (unf t kn) = tx at *
    have a1 : ∀ nid (l : List Ob), appV nid (.row 1 (ks.map (V.int .i64)) :: (l ++ [.row 1 [iv n]])) 1 8 (.own 0 0 ks.length ks.length) (.own (l.length + 1) 0 1 1) = some (.own 0 0 (ks.length + 1) (ks.length + 1), some (0, .row 1 (ks.map (V.int .i64) ++ [iv n]))) := fun nid l => appV_own rfl (by simp) (by simp [src, elems, rowOf]) (by simp) (by simp) (by omega) (by omega)
    simp [b_ref19_walk_0, hi, hi2, hlt, h2, h3, hkn, h5, kw, c1, hw1, a1]
end Go.RR.M
set_option linter.unusedVariables false
set_option linter.unusedSimpArgs false
set_option maxRecDepth 100000
set_option maxHeartbeats 4000000
namespace Go.RR
theorem txtL_mem {cs : List UT} {c : UT} (h : c ∈ cs) : (txtU c).length ≤ (txtL cs).length := by
  induction cs with
  | nil => simp at h
  | cons u r ih =>
    rw [txtL, List.length_append]
    rcases List.mem_cons.1 h with rfl | h
    · omega
    · have := ih h; omega
theorem mapO_app {α β : Type} {f : α → Option β} : ∀ {xs ys : List α} {a b : List β}, mapO f xs = some a → mapO f ys = some b → mapO f (xs ++ ys) = some (a ++ b)
  | [], ys, a, b, h1, h2 => by cases h1; exact h2
  | x :: xs, ys, a, b, h1, h2 => by
    rw [List.cons_append]
    rw [mapO_cons] at h1 ⊢
    cases hx : f x with
    | none => rw [hx] at h1; cases h1
    | some y =>
      rw [hx] at h1
      cases hr : mapO f xs with
      | none => rw [hr] at h1; cases h1
      | some c =>
        rw [hr] at h1
        cases h1
        rw [mapO_app hr h2]
        rfl
end Go.RR
namespace Go.RR.M
open Go Go.RR Go.Lib
/-- to append to a new row of one's own -/
theorem app_new {z b id : Nat} {h : List Ob} {y : V} {ys : List V} (nid : Nat) (hx : h[id]? = some (.row z [])) (hy : src h y = some (z, ys)) (h1 : ys.length * b ≤ 70368744177664) (h2 : ys.length ≤ 70368744177664) :
    appV nid h z b (.own id 0 0 0) y = some (.own id 0 ys.length ys.length, if ys = [] then none else some (id, .row z ys)) := by
  by_cases h0 : ys = []
  · subst h0
    unfold appV
    simp [hy, op1, rowOf, hx]
  · have := appV_own (nid := nid) (b := b) (m := ys.length) hx rfl hy h0 (by simp) h1 h2
    rw [if_neg h0]
    simpa using this
theorem ref_walk (t : List Nd) (L : List UT) (hm : mayT t = true) (hL : L.length ≤ 1000000) (hc : Cl L) (htl : ∀ j, j < t.length → unf t j ∈ L) : ∀ i, i < t.length → (txtU (unf t i)).length ≤ 1000000000 → RWat t L i := by
  intro i
  induction i using Nat.strongRecOn with
  | _ i ih =>
    intro hi hlen out h g sb
    have ha := mayT_ahd hm
    have hks := ha i hi
    have hkl := mayT_kids hm i hi
    have hu := unf_eq ha hi
    have hfit := fits_kp (mayT_fits hm i hi)
    obtain ⟨cs, hcs⟩ : ∃ cs, cs = t[i].kids.map fun k => unf t k.toNat := ⟨_, rfl⟩
    rw [← hcs] at hu
    rw [hu, txtU] at hlen
    simp only [List.length_cons, List.length_append, List.length_nil] at hlen
    have hw : ∀ k : Nat, (k : Int) ∈ t[i].kids → RWat t L k := fun k hk => by
      have h1 := hks k hk
      refine ih k (by omega) (by omega) ?_
      have := txtL_mem (cs := cs) (c := unf t k) (by rw [hcs]; exact List.mem_map.2 ⟨(k : Int), hk, rfl⟩)
      omega
    obtain ⟨kn, hkn⟩ : ∃ kn : Nat, t[i].kind = kn := ⟨t[i].kind.toNat, by omega⟩
    obtain ⟨pn, hpn⟩ : ∃ pn : Nat, t[i].pick = pn := ⟨t[i].pick.toNat, by omega⟩
    have d1 := ref19_digits kn (by omega)
    have d2 := ref19_digits pn (by omega)
    rw [hkn, hpn] at hlen hu
    obtain ⟨g1, -, q2, q3⟩ := shL_spec cs out g
    have hst : txtU (unf t i) = (40 :: (itoa kn ++ 32 :: itoa pn) ++ txtL cs) ++ [41] := by rw [hu, txtU]; simp
    obtain ⟨tl', lp⟩ := rw_l0 t L hL hc htl i hi hks hkl hw t[i].kids.length 0 out (40 :: (itoa kn ++ 32 :: itoa pn)) [] [] (by omega) g sb (by simp) (by
      rw [List.drop_zero, ← hcs]; simp; omega)
    simp only [List.drop_zero, ← hcs, List.nil_append, Int.cast_ofNat_Int, List.map_nil, List.length_nil] at lp
    have a1 := Go.Lib.itoa_length_le kn (by omega) (by omega)
    have a2 := Go.Lib.itoa_length_le pn (by omega) (by omega)
    have sb1 := shL_sub L hc cs out g sb (by
      intro c hcc
      rw [hcs] at hcc
      obtain ⟨k, hk, rfl⟩ := List.mem_map.1 hcc
      have := hks k hk
      exact htl _ (by omega))
    have hol := sb1.len g1
    have h3 : t[i]? = some t[i] := by simp [hi]
    have hi2 : (i : Int) < t.length := by omega
    by_cases cA : ∃ m, m < (shL cs out).1.length ∧ unf (shL cs out).1 m = unf t i
    · obtain ⟨m, hm1, hm2⟩ := cA
      have hr := put_in (k := kn) (p := pn) (cs := cs) g hm1 (by rw [hm2, hu])
      rw [hu, hr, ← hu]
      have l1 := rw_l1a (treeV t) (iv i) (treeV (shL cs out).1) (.own 0 0 (shL cs out).2.length (shL cs out).2.length) (txs (shL cs out).1) (txtU (unf t i)) (.row 1 ((shL cs out).2.map (V.int .i64)) :: tl') m (by rw [txs_len]; omega) (by rw [txs_get hm1, hm2]) (fun j hj => ⟨_, txs_get (by omega), fun e => by
        have e1 := txtU_inj e
        rw [← hm2] at e1
        have := Good.inj g1 (shL cs out).1.length j m (by omega) hm1 (by omega) hm1 e1
        omega⟩) m 0 (by omega)
      simp only [List.append_assoc, List.cons_append, List.nil_append] at hst
      simp only [Int.cast_ofNat_Int, hst] at l1
      rw [hst]
      generalize itoa kn = A at *
      generalize itoa pn = B at *
      generalize txtL cs = T at *
      generalize txs (shL cs out).1 = X at *
      generalize (shL cs out).1 = o1 at *
      generalize (shL cs out).2 = k1 at *
      refine acw_pure (a2 := [treeV t, iv i, .sl 1 (txs out), treeV out]) (h' := .row 1 (k1.map (V.int .i64)) :: tl') (v := .tup [.str (40 :: (A ++ 32 :: (B ++ (T ++ [41])))), .sl 1 X, treeV o1, iv m]) (CT T_ref19_walk) rfl rfl ?_ rfl (by simp)
      have c1 : 1 + A.length ≤ 4611686018427387904 := by omega
      have c2 : A.length + 1 + 1 ≤ 4611686018427387904 := by omega
      have c2' : A.length + 2 ≤ 4611686018427387904 := by omega
      have c3 : A.length + 1 + 1 + B.length ≤ 4611686018427387904 := by omega
      have c3' : A.length + 2 + B.length ≤ 4611686018427387904 := by omega
      have c4 : A.length + (B.length + T.length + 1) + 1 + 1 ≤ 4611686018427387904 := by omega
      simp [runW_fin, F_ref19_walk, i_ref19_walk, hi, hi2, h3, hkn, hpn, d1, d2, lp, l1, c1, c2, c2', c3, c3', c4]
    · have hno : ∀ m, m < (shL cs out).1.length → unf (shL cs out).1 m ≠ .nd kn pn cs := fun m hm1 e => cA ⟨m, hm1, by rw [e, hu]⟩
      have hr := put_new (k := kn) (p := pn) (cs := cs) g hno
      have hs := shU_spec (.nd kn pn cs) out g
      rw [hr] at hs
      obtain ⟨s1, -, s3, s4⟩ := hs
      have htx := txs_app s1.ahd
      rw [s4, ← hu] at htx
      rw [hu, hr, ← hu]
      have l1 := rw_l1b (treeV t) (iv i) (treeV (shL cs out).1) (.own 0 0 (shL cs out).2.length (shL cs out).2.length) (txs (shL cs out).1) (txtU (unf t i)) (.row 1 ((shL cs out).2.map (V.int .i64)) :: tl') (by rw [txs_len]; omega) (fun j hj => by
        rw [txs_len] at hj
        exact ⟨_, txs_get hj, fun e => hno j hj (by rw [txtU_inj e, hu])⟩) (txs (shL cs out).1).length 0 (by omega)
      simp only [List.append_assoc, List.cons_append, List.nil_append] at hst
      simp only [Int.cast_ofNat_Int, hst] at l1
      simp only [htx]
      rw [hst]
      have hXz : ∀ h n, mapO (frz h (n + 1)) (txs (shL cs out).1) = some (txs (shL cs out).1) := fun h n => mapO_id fun x hx => by
        obtain ⟨a, -, rfl⟩ := List.mem_map.1 hx
        rfl
      have hXl : (txs (shL cs out).1).length = (shL cs out).1.length := txs_len
      generalize itoa kn = A at *
      generalize itoa pn = B at *
      generalize txtL cs = T at *
      generalize txs (shL cs out).1 = X at *
      generalize (shL cs out).1 = o1 at *
      generalize (shL cs out).2 = k1 at *
      have c1 : 1 + A.length ≤ 4611686018427387904 := by omega
      have c2 : A.length + 1 + 1 ≤ 4611686018427387904 := by omega
      have c2' : A.length + 2 ≤ 4611686018427387904 := by omega
      have c3 : A.length + 1 + 1 + B.length ≤ 4611686018427387904 := by omega
      have c3' : A.length + 2 + B.length ≤ 4611686018427387904 := by omega
      have c4 : A.length + (B.length + T.length + 1) + 1 + 1 ≤ 4611686018427387904 := by omega
      obtain ⟨TX, hTX⟩ : ∃ TX, TX = (40 :: (A ++ 32 :: (B ++ (T ++ [41])))) := ⟨_, rfl⟩
      rw [← hTX] at l1 ⊢
      have hTX' := hTX.symm
      obtain ⟨R, hR⟩ : ∃ R, R = Ob.row 1 (k1.map (V.int .i64)) := ⟨_, rfl⟩
      rw [← hR] at l1 lp
      have e1 := app_new (z := 1) (b := 16) (id := tl'.length + 1) (h := R :: (tl' ++ [.row 1 []])) (y := .sl 1 X) (ys := X) (tl'.length + 2) (by simp) rfl (by omega) (by omega)
      have e3 : appV (tl'.length + 3) (R :: (tl' ++ [.row 1 X, .row 1 [.str TX]])) 1 16 (.own (tl'.length + 1) 0 X.length X.length) (.own (tl'.length + 2) 0 1 1) = some (.own (tl'.length + 1) 0 (X.length + 1) (X.length + 1), some (tl'.length + 1, .row 1 (X ++ [.str TX]))) := appV_own (by simp) rfl (by simp [src, elems, rowOf]) (by simp) (by simp) (by omega) (by omega)
      have e4 := app_new (z := 3) (b := 40) (id := tl'.length + 3) (h := R :: (tl' ++ [.row 1 (X ++ [.str TX]), .row 1 [.str TX], .row 3 []])) (y := treeV o1) (ys := o1.map nodeV) (tl'.length + 4) (by simp) rfl (by simp only [List.length_map]; omega) (by simp only [List.length_map]; omega)
      obtain ⟨NV, hNV⟩ : ∃ NV, NV = V.agg [iv kn, iv pn, .own 0 0 k1.length k1.length] := ⟨_, rfl⟩
      have e5 : appV (tl'.length + 5) (R :: (tl' ++ [.row 1 (X ++ [.str TX]), .row 1 [.str TX], .row 3 (o1.map nodeV), .row 3 [NV]])) 3 40 (.own (tl'.length + 3) 0 o1.length o1.length) (.own (tl'.length + 4) 0 1 1) = some (.own (tl'.length + 3) 0 (o1.length + 1) (o1.length + 1), some (tl'.length + 3, .row 3 (o1.map nodeV ++ [NV]))) := appV_own (by simp) (by simp) (by simp [src, elems, rowOf]) (by simp) (by simp) (by omega) (by omega)
      have wI : IntKind.i64.wrap ((o1.length : Int) + 1 - 1) = o1.length := by rw [wrap64 (by omega) (by omega)]; omega
      have wI' : IntKind.i64.wrap (o1.length : Int) = o1.length := wrap64 (by omega) (by omega)
      refine acw_pure (a2 := [treeV t, iv i, .sl 1 (txs out), treeV out]) (h' := R :: (tl' ++ [.row 1 (X ++ [.str TX]), .row 1 [.str TX], .row 3 (o1.map nodeV ++ [NV]), .row 3 [NV]])) (v := .tup [.str TX, .own (tl'.length + 1) 0 (X.length + 1) (X.length + 1), .own (tl'.length + 3) 0 (o1.length + 1) (o1.length + 1), iv o1.length]) (CT T_ref19_walk) rfl rfl ?_ ?_ (by simp)
      · rw [hNV] at e5 ⊢
        have hn1 : tl'.length + 2 + 1 = tl'.length + 3 := rfl
        have hn2 : tl'.length + 3 + 1 = tl'.length + 4 := rfl
        have hb1 : (tl'.length == tl'.length + 1) = false := beq_eq_false_iff_ne.2 (by omega)
        have hn0 : tl'.length + 1 + 1 = tl'.length + 2 := rfl
        by_cases hX0 : X = []
        · have ho : o1 = [] := List.length_eq_zero_iff.1 (by rw [← hXl, hX0]; rfl)
          subst hX0 ho
          simp at e1 e3 e4 e5
          simp [hn0, hn1, hn2, hb1, runW_fin, F_ref19_walk, i_ref19_walk, hi, hi2, h3, hkn, hpn, d1, d2, lp, l1, c1, c2, c2', c3, c3', c4, hTX', w_dr, e1, e3, e4, e5, wI, wI']
        · have ho : ¬ (o1 = []) := fun e => hX0 (List.length_eq_zero_iff.1 (by rw [hXl, e]; rfl))
          simp only [List.map_eq_nil_iff, hX0, ho, if_false, List.length_map] at e1 e4
          simp [hn0, hn1, hn2, hb1, runW_fin, F_ref19_walk, i_ref19_walk, hi, hi2, h3, hkn, hpn, d1, d2, lp, l1, c1, c2, c2', c3, c3', c4, hTX', w_dr, e1, e3, e4, e5, wI, wI']
      · obtain ⟨HH, hHH⟩ : ∃ HH, HH = R :: (tl' ++ [Ob.row 1 (X ++ [.str TX]), .row 1 [.str TX], .row 3 (o1.map nodeV ++ [NV]), .row 3 [NV]]) := ⟨_, rfl⟩
        rw [← hHH]
        have z1 : frz HH 11 (.own (tl'.length + 1) 0 (X.length + 1) (X.length + 1)) = some (.sl 1 (X ++ [.str TX])) := AccB.frz 10 (B := 0) (.own (xs := X ++ [.str TX]) (by omega) (by simp) (by rw [hHH]; simp)) (mapO_app (hXz HH 9) rfl)
        have z0 : frz HH 10 NV = some (nodeV ⟨kn, pn, k1⟩) := by
          have q : frz HH 9 (.own 0 0 k1.length k1.length) = some (intsV k1) := frz_own_ints (by rw [hHH, hR]; rfl) rfl 7
          rw [hNV]
          show (mapO (frz HH 9) _).map V.agg = _
          simp only [mapO_cons, mapO_nil, q]
          rfl
        have z2 : frz HH 11 (.own (tl'.length + 3) 0 (o1.length + 1) (o1.length + 1)) = some (treeV (o1 ++ [⟨kn, pn, k1⟩])) := AccB.frz 10 (B := 0) (.own (xs := o1.map nodeV ++ [NV]) (by omega) (by simp) (by rw [hHH]; simp)) (by
          rw [List.map_append]
          exact mapO_app (frz_nodes HH 6 o1) (by simp [mapO_cons, z0]))
        show (mapO (frz HH 11) _).map V.tup = _
        simp only [mapO_cons, mapO_nil, z1, z2]
        rfl
end Go.RR.M
set_option linter.unusedVariables false
set_option linter.unusedSimpArgs false
set_option maxRecDepth 100000
set_option maxHeartbeats 4000000
namespace Go.RR
def tx (n : Nd) : List UInt8 := textB n.kind n.pick n.kids
theorem tx_inj {a b : Nd} (h : tx a = tx b) : a = b := by
  obtain ⟨h1, h2, h3⟩ := textB_inj h
  cases a; cases b; simp only at h1 h2 h3; rw [h1, h2, h3]
/-- what stands here, by its texts -/
def esF : List Nd → Nat → List (V × V × Nat)
  | [], _ => []
  | m :: r, j => (.str (tx m), iv ((j : Int) + 1), j) :: esF r (j + 1)
theorem esF_app : ∀ (l : List Nd) (j : Nat) (n : Nd), esF (l ++ [n]) j = esF l j ++ [(.str (tx n), iv (((j + l.length : Nat) : Int) + 1), j + l.length)]
  | [], j, n => by simp [esF]
  | m :: r, j, n => by
    have := esF_app r (j + 1) n
    simp only [List.cons_append, esF, this, List.length_cons]
    rw [show j + 1 + r.length = j + (r.length + 1) by omega]
theorem mfind_es (n : Nd) : ∀ (l : List Nd) (j : Nat), mfind (.str (tx n)) (esF l j) j = some ((l.findIdx? fun m => decide (m = n)).map fun i => (j + i, iv (((j + i : Nat) : Int) + 1)))
  | [], j => rfl
  | m :: r, j => by
    simp only [esF, mfind, keyEq]
    rw [List.findIdx?_cons]
    by_cases c : m = n
    · subst c
      simp
    · have c2 : ¬ (tx n = tx m) := fun e => c (tx_inj e).symm
      have c3 : (tx n == tx m) = false := by simpa using c2
      have c4 : decide (m = n) = false := by simpa using c
      rw [c3, c4]
      simp only [Bool.false_eq_true, if_false]
      rw [mfind_es n r (j + 1)]
      cases r.findIdx? fun m => decide (m = n) with
      | none => rfl
      | some i =>
        simp only [Option.map_some]
        rw [show j + 1 + i = j + (i + 1) by omega]
/-- what puts together, in memory -/
structure Shr (h : List Ob) (sid mid : Nat) (ov : V) (out : List Nd) : Prop where
  s : h[sid]? = some (.row 2 [.agg [ov, .mp mid]])
  m : h[mid]? = some (.map (esF out 0) out.length)
  o : AccB 0 h ov 3 (out.map nodeV)
def oidV : V → Option Nat
  | .own id _ _ _ => some id
  | _ => none
/-- all else stays -/
structure Keep (h h' : List Ob) (sid mid did : Nat) (ov ov' : V) : Prop where
  k : ∀ j, j < h.length → j ≠ sid → j ≠ mid → j ≠ did → oidV ov ≠ some j → h'[j]? = h[j]?
  l : h.length ≤ h'.length
  o : oidV ov' = oidV ov ∨ ∃ id, oidV ov' = some id ∧ h.length ≤ id
theorem Keep.refl {h : List Ob} {sid mid did : Nat} {ov : V} : Keep h h sid mid did ov ov := ⟨fun _ _ _ _ _ _ => rfl, Nat.le_refl _, .inl rfl⟩
theorem Keep.trans {h h1 h2 : List Ob} {sid mid did : Nat} {ov ov1 ov2 : V} (a : Keep h h1 sid mid did ov ov1) (b : Keep h1 h2 sid mid did ov1 ov2) : Keep h h2 sid mid did ov ov2 := by
  refine ⟨fun j hj h1 h2 h3 h4 => ?_, Nat.le_trans a.l b.l, ?_⟩
  · rw [b.k j (Nat.lt_of_lt_of_le hj a.l) h1 h2 h3 ?_, a.k j hj h1 h2 h3 h4]
    rcases a.o with e | ⟨id, e, he⟩
    · rw [e]; exact h4
    · rw [e]; intro e2; cases e2; omega
  · rcases b.o with e | ⟨id, e, he⟩
    · rw [e]; exact a.o
    · exact .inr ⟨id, e, Nat.le_trans a.l he⟩
/-- own memory of before is not that of what puts together -/
theorem AccB.oid {B : Nat} {h : List Ob} {v : V} {z : Nat} {xs : List V} (a : AccB B h v z xs) {j : Nat} (e : oidV v = some j) : h[j]? = some (.row z xs) := by
  rcases a with ⟨rfl, -⟩ | ⟨id, -, rfl, e2⟩
  · cases e
  · cases e; exact e2
/-- appending writes one's own row, or a new one -/
theorem AccB.app2 {B : Nat} {h : List Ob} {v y : V} {z b : Nat} {xs ys : List V} (a : AccB B h v z xs) (hB : B ≤ h.length) (hy : src h y = some (z, ys)) (h1 : (xs.length + ys.length) * b ≤ 70368744177664) (h2 : xs.length + ys.length ≤ 70368744177664) :
    ∃ v' w, appV h.length h z b v y = some (v', w) ∧ AccB B (wr h w) v' z (xs ++ ys) ∧ (∀ j, j < h.length → oidV v ≠ some j → (wr h w)[j]? = h[j]?) ∧ (oidV v' = oidV v ∨ oidV v' = some h.length) ∧ h.length ≤ (wr h w).length := by
  unfold appV
  simp only [op1, ev_c, hy, if_true]
  rcases a with ⟨rfl, rfl⟩ | ⟨id, hid, rfl, e⟩
  · by_cases hys : ys = []
    · subst hys
      exact ⟨.nsl z, none, by simp, .inl ⟨rfl, rfl⟩, fun _ _ _ => rfl, .inl rfl, wr_length _ _⟩
    · simp only [hys, if_false]
      simp only [List.length_nil, Nat.zero_add] at h1 h2
      rw [if_pos ⟨h1, h2⟩]
      exact ⟨_, _, rfl, .inr ⟨h.length, hB, by simp, by simp⟩, fun j hj _ => by rw [wr_len, get_lt hj], .inr rfl, wr_length _ _⟩
  · by_cases hys : ys = []
    · subst hys
      exact ⟨.own id 0 xs.length xs.length, none, by simp [rowOf, e], .inr ⟨id, hid, by simp, by simpa using e⟩, fun _ _ _ => rfl, .inl rfl, wr_length _ _⟩
    · simp only [rowOf, e, if_true, hys, if_false, Nat.zero_add, true_and]
      rw [if_pos ⟨h1, h2⟩]
      have hl := (List.getElem?_eq_some_iff.1 e).1
      refine ⟨_, _, rfl, .inr ⟨id, hid, by simp, by simp [wr, hl, comb]⟩, fun j hj ho => ?_, .inl rfl, wr_length _ _⟩
      have hne : id ≠ j := fun q => ho (by rw [q]; rfl)
      rw [wr_lt hl, List.getElem?_set_ne hne]
/-- numbers that a node has -/
def NdB (n : Nd) : Prop := I64 n.kind ∧ I64 n.pick ∧ (∀ k ∈ n.kids, I64 k) ∧ n.kids.length ≤ 1000000
end Go.RR
namespace Go.RR.M
open Go Go.RR Go.Lib
theorem tree_text (n : Nd) (hn : NdB n) (kv : V) (hk : kv = intsV n.kids ∨ (kv = .nsl 1 ∧ n.kids = [])) (h : List Ob) : acw C n_tree_text [.agg [iv n.kind, iv n.pick, kv]] h = some (.ret (.str (tx n)), h) := by
  obtain ⟨h1, h2, h3, h4⟩ := hn
  have e : s_text [nodeV n] = some (.str (tx n)) := by
    have a1 : i64B n.kind = true := by simp only [i64B, Bool.and_eq_true, decide_eq_true_eq]; exact h1
    have a2 : i64B n.pick = true := by simp only [i64B, Bool.and_eq_true, decide_eq_true_eq]; exact h2
    have a3 : n.kids.all i64B = true := List.all_eq_true.2 fun k hk => by simp only [i64B, Bool.and_eq_true, decide_eq_true_eq]; exact h3 k hk
    have a4 : ints (n.kids.map (V.int .i64)) = some n.kids := by
      generalize n.kids = l
      induction l with
      | nil => rfl
      | cons x r ih => simp [ints, ih]
    simp only [s_text, a4, a1, a2, a3, h4, decide_true, Bool.and_self, if_true]
    rfl
  refine acw_S (a2 := [nodeV n]) rfl rfl ?_ ?_ (by simp)
  · rcases hk with rfl | ⟨rfl, hk⟩
    · rfl
    · rw [nodeV, hk]; rfl
  · simp only [C, S, if_true]
    exact e
theorem o_lku {nid id c i : Nat} {h : List Ob} {ks : Option IntKind} {z key v : V} {es : List (V × V × Nat)} (e : h[id]? = some (.map es c)) (k : isKey ks key = true) (f : mfind key es 0 = some (some (i, v))) : opJ nid h (.lku ks z false) [.mp id, key] = some (v, none) := by
  simp [opJ, mapOf, e, k, f, lkr]
theorem o_lku0 {nid id c : Nat} {h : List Ob} {ks : Option IntKind} {z key : V} {es : List (V × V × Nat)} (e : h[id]? = some (.map es c)) (k : isKey ks key = true) (f : mfind key es 0 = some none) : opJ nid h (.lku ks z false) [.mp id, key] = some (z, none) := by
  simp [opJ, mapOf, e, k, f, lkr]
theorem o_mpu {nid id c : Nat} {h : List Ob} {ks : Option IntKind} {key v : V} {es : List (V × V × Nat)} (e : h[id]? = some (.map es c)) (k : isKey ks key = true) (hv : v.isUnd = false) (hv2 : v.isTup = false) (f : mfind key es 0 = some none) : opJ nid h (.mpu ks) [.mp id, key, v] = some (.und, some (id, .map (es ++ [(key, v, c)]) (c + 1))) := by
  simp [opJ, mapOf, e, k, f, hv, hv2]
theorem put (n : Nd) (hn : NdB n) (kv : V) (hk : kv = intsV n.kids ∨ (kv = .nsl 1 ∧ n.kids = [])) (h : List Ob) (sid mid : Nat) (ov : V) (out : List Nd) (s : Shr h sid mid ov out) (hl : out.length ≤ 1000000) (did : Nat) :
    ∃ ov' h', acw C n_tree_sharer_put [.ptr sid 0 0 1, .agg [iv n.kind, iv n.pick, kv]] h = some (.ret (iv (putN out n).2), h') ∧ Shr h' sid mid ov' (putN out n).1 ∧ Keep h h' sid mid did ov ov' ∧ (did < h.length → did ≠ sid → did ≠ mid → oidV ov ≠ some did → h'[did]? = h[did]?) := by
  obtain ⟨s1, s2, s3⟩ := s
  have kt := tree_text n hn kv hk
  have kb : bsfL (.agg [.int .i64 0, .int .i64 0, .nsl 1]) [.agg [iv n.kind, iv n.pick, kv]] = some (.sl 3 [nodeV n]) := by
    rcases hk with rfl | ⟨rfl, hk⟩
    · rfl
    · rw [nodeV, hk]; rfl
  have hs1 := (List.getElem?_eq_some_iff.1 s1).1
  have hs2 := (List.getElem?_eq_some_iff.1 s2).1
  have hne : sid ≠ mid := fun e => by subst e; rw [s1] at s2; cases s2
  have g1 : ∀ l, (h ++ l)[sid]? = some (.row 2 [.agg [ov, .mp mid]]) := fun l => get_some s1
  have g2 : ∀ l, (h ++ l)[mid]? = some (.map (esF out 0) out.length) := fun l => get_some s2
  have mf := mfind_es n out 0
  unfold putN
  obtain ⟨Z, hZ⟩ : ∃ Z, Z = V.agg [iv n.kind, iv n.pick, kv] := ⟨_, rfl⟩
  have hZc : Z.size = 3 ∧ Z.isTup = false ∧ Z.isUnd = false ∧ Z.cells.length = 3 ∧ (.agg Z.cells = Z) := by rw [hZ]; exact ⟨rfl, rfl, rfl, rfl, rfl⟩
  obtain ⟨z1, z2, z3, z4, z5⟩ := hZc
  obtain ⟨q1, q2, q3, q4⟩ := s3.good
  cases hf : out.findIdx? (fun m => decide (m = n)) with
  | some i =>
    rw [hf] at mf
    simp only [Option.map_some, Nat.zero_add] at mf
    have hi := (List.findIdx?_eq_some_iff_getElem.1 hf).1
    have c1 : ¬ ((i : Int) + 1 = 0) := by omega
    have w1 : IntKind.i64.wrap (i : Int) = i := wrap64 (by omega) (by omega)
    refine ⟨ov, h ++ [.row 3 [Z]], ?_, ⟨g1 _, g2 _, s3.more⟩, ⟨fun j hj _ _ _ _ => get_lt hj, by simp, .inl rfl⟩, fun hd _ _ _ => get_lt hd⟩
    rw [acw_hm (CT T_tree_sharer_put) rfl]
    have kl : ∀ nid (l : List Ob), opJ nid (h ++ l) (.lku none (.int .i64 0) false) [.mp mid, .str (tx n)] = some (.int .i64 ((i : Int) + 1), none) := fun nid l => o_lku (g2 l) rfl mf
    subst hZ
    simp [runW_fin, F_tree_sharer_put, i_tree_sharer_put, kt, g1, kl, c1, w1, ieq, q1, q2, q3, q4]
  | none =>
    rw [hf] at mf
    simp only [Option.map_none] at mf
    have hB := hl
    have s4 : AccB 0 (h ++ [.row 3 [Z]]) ov 3 (out.map nodeV) := s3.more
    obtain ⟨ov1, w1, e1, e2, e3, e5, e6⟩ := s4.app2 (b := 40) (y := .sl 3 [nodeV n]) (ys := [nodeV n]) (by omega) rfl (by simp only [List.length_cons, List.length_nil, List.length_map]; omega) (by simp only [List.length_cons, List.length_nil, List.length_map]; omega)
    obtain ⟨p1, p2, p3, p4⟩ := e2.good
    obtain ⟨H2, hH2⟩ : ∃ H2, H2 = wr (h ++ [.row 3 [Z]]) w1 := ⟨_, rfl⟩
    rw [← hH2] at e2 e3 e6
    have kl : ∀ nid (l : List Ob), opJ nid (h ++ l) (.lku none (.int .i64 0) false) [.mp mid, .str (tx n)] = some (.int .i64 0, none) := fun nid l => o_lku0 (g2 l) rfl mf
    have a1 : H2[sid]? = some (.row 2 [.agg [ov, .mp mid]]) := by rw [e3 sid (by simp; omega) (fun q => by have := s3.oid q; rw [s1] at this; cases this)]; exact g1 _
    have a2 : H2[mid]? = some (.map (esF out 0) out.length) := by rw [e3 mid (by simp; omega) (fun q => by have := s3.oid q; rw [s2] at this; cases this)]; exact g2 _
    subst hZ
    simp only [List.length_append, List.length_singleton] at e1
    rw [acw_hm (CT T_tree_sharer_put) rfl]
    have hH2' := hH2.symm
    have b1 := (List.getElem?_eq_some_iff.1 a1).1
    have b2 := (List.getElem?_eq_some_iff.1 a2).1
    obtain ⟨H3, hH3⟩ : ∃ H3, H3 = H2.set sid (.row 2 [.agg [ov1, .mp mid]]) := ⟨_, rfl⟩
    have u1 : wr H2 (some (sid, .row 2 [.agg [ov1, .mp mid]])) = H3 := by rw [wr_lt b1, hH3]
    have u2 : H3[sid]? = some (.row 2 [.agg [ov1, .mp mid]]) := by rw [hH3]; simp [b1]
    have u3 : H3[mid]? = some (.map (esF out 0) out.length) := by rw [hH3, List.getElem?_set_ne hne]; exact a2
    have u4 : AccB 0 H3 ov1 3 (out.map nodeV ++ [nodeV n]) := by rw [hH3]; exact e2.set a1 (by omega)
    have u5 : lenV H3 ov1 = some (.int .i64 ((out.length : Int) + 1), none) := by
      rcases u4 with ⟨-, q⟩ | ⟨id, -, rfl, q⟩
      · simp at q
      · simp [q]
    obtain ⟨H4, hH4⟩ : ∃ H4, H4 = H3.set mid (.map (esF (out ++ [n]) 0) (out.length + 1)) := ⟨_, rfl⟩
    have b3 := (List.getElem?_eq_some_iff.1 u3).1
    have v1 : wr H3 (some (mid, .map (esF (out ++ [n]) 0) (out.length + 1))) = H4 := by rw [wr_lt b3, hH4]
    have v2 : H4[sid]? = some (.row 2 [.agg [ov1, .mp mid]]) := by rw [hH4, List.getElem?_set_ne hne.symm]; exact u2
    have v3 : H4[mid]? = some (.map (esF (out ++ [n]) 0) (out.length + 1)) := by rw [hH4]; simp [b3]
    have km : ∀ nid, opJ nid H3 (.mpu none) [.mp mid, .str (tx n), .int .i64 ((out.length : Int) + 1)] = some (.und, some (mid, .map (esF (out ++ [n]) 0) (out.length + 1))) := fun nid => by
      rw [o_mpu u3 rfl rfl rfl mf, esF_app, Nat.zero_add]
    have fi : (out ++ [n]).findIdx? (fun m => decide (m = n)) = some out.length := by
      rw [List.findIdx?_append, hf]
      simp
    have mf2 := mfind_es n (out ++ [n]) 0
    rw [fi] at mf2
    simp only [Option.map_some, Nat.zero_add] at mf2
    have kk : ∀ nid, opJ nid H4 (.lku none (.int .i64 0) false) [.mp mid, .str (tx n)] = some (.int .i64 ((out.length : Int) + 1), none) := fun nid => o_lku v3 rfl mf2
    have wI : IntKind.i64.wrap (out.length : Int) = out.length := wrap64 (by omega) (by omega)
    refine ⟨ov1, H4, ?_, ?_, ?_, ?_⟩
    · simp [runW_fin, F_tree_sharer_put, i_tree_sharer_put, kt, g1, kl, ieq, q1, q2, q3, q4, p1, p2, p3, p4, kb, e1, hH2', a1, a2, u1, u2, u3, u5, v1, v2, v3, km, kk, wI]
    · refine ⟨v2, by rw [List.length_append]; exact v3, ?_⟩
      rw [List.map_append]
      refine AccB.keep u4 fun j r _ hj => ?_
      have hne2 : mid ≠ j := fun q => by subst q; rw [u3] at hj; cases hj
      rw [hH4, List.getElem?_set_ne hne2]
      exact hj
    · refine ⟨fun j hj k1 k2 _ k4 => ?_, ?_, ?_⟩
      · rw [hH4, List.getElem?_set_ne (Ne.symm k2), hH3, List.getElem?_set_ne (Ne.symm k1), e3 j (by simp; omega) k4]
        exact get_lt hj
      · rw [hH4, List.length_set, hH3, List.length_set]
        simp at e6
        omega
      · rcases e5 with e5 | e5
        · exact .inl e5
        · exact .inr ⟨_, e5, by simp⟩
    · intro hd k1 k2 k4
      rw [hH4, List.getElem?_set_ne (Ne.symm k2), hH3, List.getElem?_set_ne (Ne.symm k1), e3 did (by simp; omega) k4]
      exact get_lt hd
end Go.RR.M
