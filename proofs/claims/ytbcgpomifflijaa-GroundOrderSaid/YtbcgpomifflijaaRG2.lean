/- The law on what is turned: plain facts. -/
import Derived.Test.YtbcgpomifflijaaRG
set_option linter.unusedVariables false
set_option linter.unusedSimpArgs false
set_option linter.unusedVariables false
set_option linter.unusedSimpArgs false
set_option maxRecDepth 100000
namespace Go.RR
def contrary (r : Int) : Int := if r = 0 then 1 else if r = 1 then 0 else if r = 2 then 5 else if r = 3 then 4 else if r = 4 then 3 else 2
def about (r : Int) : Int := if r = 0 then 0 else if r = 1 then 1 else if r = 2 then 4 else if r = 3 then 5 else if r = 4 then 2 else 3
theorem rel6 {r : Int} (h : 0 ≤ r ∧ r ≤ 5) : r = 0 ∨ r = 1 ∨ r = 2 ∨ r = 3 ∨ r = 4 ∨ r = 5 := by omega
theorem rel_contrary {r : Int} (h : 0 ≤ r ∧ r ≤ 5) (a b : Int) : relB (contrary r) a b = !relB r a b := by
  rcases rel6 h with rfl | rfl | rfl | rfl | rfl | rfl <;> simp [relB, contrary] <;> (try (by_cases c : a = b <;> simp [c])) <;> (try (by_cases c : a < b <;> by_cases d : b ≤ a <;> simp [c, d] <;> omega)) <;> (try (by_cases c : a ≤ b <;> by_cases d : b < a <;> simp [c, d] <;> omega))
theorem rel_about {r : Int} (h : 0 ≤ r ∧ r ≤ 5) (a b : Int) : relB (about r) (-a) (-b) = relB r a b := by
  rcases rel6 h with rfl | rfl | rfl | rfl | rfl | rfl <;> simp [relB, about] <;> (try omega)
theorem contrary_rel {r : Int} (h : 0 ≤ r ∧ r ≤ 5) : 0 ≤ contrary r ∧ contrary r ≤ 5 := by
  rcases rel6 h with rfl | rfl | rfl | rfl | rfl | rfl <;> simp [contrary]
theorem about_rel {r : Int} (h : 0 ≤ r ∧ r ≤ 5) : 0 ≤ about r ∧ about r ≤ 5 := by
  rcases rel6 h with rfl | rfl | rfl | rfl | rfl | rfl <;> simp [about]
theorem dotI_neg : ∀ (l m : List Int), dotI (l.map fun x => -x) m = -dotI l m
  | [], m => by simp [dotI]
  | a :: r, [] => by simp [dotI]
  | a :: r, b :: s => by
    simp only [List.map_cons, dotI, dotI_neg r s, Int.neg_mul]
    omega
theorem withinB_iff {m : Int} {l : List Int} : withinB m l = true ↔ ∀ x ∈ l, -m ≤ x ∧ x ≤ m := by
  unfold withinB
  simp
theorem vOK_app {n : Int} : ∀ (l pre : List Int), vOK n pre l = true → vOK (n + 1) pre l = true
  | [], _, _ => rfl
  | v :: r, pre, h => by
    simp only [vOK, Bool.and_eq_true, decide_eq_true_eq] at h ⊢
    exact ⟨⟨⟨h.1.1.1, by omega⟩, h.1.2⟩, vOK_app r _ h.2⟩
theorem vOK_pre {n x : Int} (hx : ∀ v, v < n → v ≠ x) : ∀ (l pre : List Int), vOK n pre l = true → vOK (n + 1) (x :: pre) l = true
  | [], _, _ => rfl
  | v :: r, pre, h => by
    simp only [vOK, Bool.and_eq_true, decide_eq_true_eq, Bool.not_eq_true', List.any_cons, Bool.or_eq_false_iff] at h ⊢
    refine ⟨⟨⟨h.1.1.1, by omega⟩, by simpa using hx v h.1.1.2, h.1.2⟩, ?_⟩
    exact vOK_pre hx r (pre ++ [v]) h.2
end Go.RR
namespace Go.RR.M
open Go Go.RR
theorem lin_right {c : Con} {n : Int} (h1 : c.kind = 1) (hk : rightB c n = true) : varsB c n 1 8 = true ∧ sumB c 0 = true := by
  unfold rightB at hk
  rw [if_pos h1] at hk
  unfold linearB at hk
  simpa using hk
/-- what comes of a sum turned about -/
def turnC (c : Con) : Con := ⟨c.kind, c.vars, c.coefs.map (fun x => -x), about c.rel, -c.const, c.nums⟩
def contC (c : Con) : Con := ⟨c.kind, c.vars, c.coefs, contrary c.rel, c.const, c.nums⟩
def iffC (c : Con) (n : Int) : Con := ⟨3, n :: c.vars, c.coefs, c.rel, c.const, []⟩
theorem sumB_mk {c : Con} {b : Int} (h1 : (c.coefs.length : Int) = c.vars.length - b) (h2 : ∀ x ∈ c.coefs, smallI x) (h3 : ∀ x ∈ c.coefs, x ≠ 0) (h4 : 0 ≤ c.rel ∧ c.rel ≤ 5) (h5 : -1099511627776 ≤ c.const ∧ c.const ≤ 1099511627776) (h6 : c.nums.length = 0) : sumB c b = true := by
  unfold sumB
  simp only [Bool.and_eq_true, decide_eq_true_eq]
  refine ⟨h1, withinB_iff.2 fun x hx => h2 x hx, ?_, h4.1, h4.2, withinB_iff.2 (by simpa using h5), h6⟩
  simp only [Bool.not_eq_true', List.any_eq_false]
  intro x hx e
  exact h3 x hx (by simpa using (beq_iff_eq.1 e).symm)
theorem sumB_nz {c : Con} {b : Int} (h : sumB c b = true) : ∀ x ∈ c.coefs, x ≠ 0 := by
  unfold sumB at h
  simp only [Bool.and_eq_true, Bool.not_eq_true', List.any_eq_false] at h
  intro x hx e
  exact h.2.2.1 x hx (by simp [e])
theorem cont_right {c : Con} {n : Int} (h1 : c.kind = 1) (hk : rightB c n = true) : rightB (contC c) n = true := by
  obtain ⟨hv, hs⟩ := lin_right h1 hk
  have hi := sumB_inv hs
  have hs' : sumB (contC c) 0 = true := sumB_mk hi.1 hi.2.1 (fun x hx => sumB_nz (c := c) hs x hx) (contrary_rel hi.2.2.1) hi.2.2.2.1 hi.2.2.2.2
  have hv' : varsB (contC c) n 1 8 = true := hv
  unfold rightB
  rw [if_pos (show (contC c).kind = 1 from h1)]
  unfold linearB
  rw [hv', hs']; rfl
theorem turn_right {c : Con} {n : Int} (h1 : c.kind = 1) (hk : rightB c n = true) : rightB (turnC c) n = true := by
  obtain ⟨hv, hs⟩ := lin_right h1 hk
  have hi := sumB_inv hs
  have hz := sumB_nz hs
  have hs' : sumB (turnC c) 0 = true := sumB_mk (by simpa [turnC] using hi.1) (fun x hx => by
    obtain ⟨y, hy, rfl⟩ := List.mem_map.1 hx
    have := hi.2.1 y hy
    exact ⟨by have := this.2; omega, by have := this.1; omega⟩) (fun x hx => by
    obtain ⟨y, hy, rfl⟩ := List.mem_map.1 hx
    have := hz y hy
    omega) (about_rel hi.2.2.1) (by have := hi.2.2.2.1; exact ⟨by simp only [turnC]; omega, by simp only [turnC]; omega⟩) hi.2.2.2.2
  have hv' : varsB (turnC c) n 1 8 = true := hv
  unfold rightB
  rw [if_pos (show (turnC c).kind = 1 from h1)]
  unfold linearB
  rw [hv', hs']; rfl
theorem iff_right {c : Con} {n : Nat} (h1 : c.kind = 1) (hk : rightB c n = true) : rightB (iffC c n) ((n : Int) + 1) = true := by
  obtain ⟨hv, hs⟩ := lin_right h1 hk
  have hi := sumB_inv hs
  have hvi := varsB_inv hv
  have hs' : sumB (iffC c n) 1 = true := sumB_mk (by simp only [iffC, List.length_cons]; omega) hi.2.1 (fun x hx => sumB_nz (c := c) hs x hx) hi.2.2.1 hi.2.2.2.1 rfl
  have hv' : varsB (iffC c n) ((n : Int) + 1) 2 9 = true := by
    unfold varsB at hv ⊢
    simp only [Bool.and_eq_true, decide_eq_true_eq] at hv ⊢
    refine ⟨⟨by simp only [iffC, List.length_cons]; omega, by simp only [iffC, List.length_cons]; omega⟩, ?_⟩
    simp only [iffC, vOK, List.any_nil, Bool.not_false, Bool.and_true, Bool.and_eq_true, decide_eq_true_eq]
    exact ⟨⟨by omega, by omega⟩, vOK_pre (x := (n : Int)) (fun v hv => by omega) _ [] hv.2⟩
  unfold rightB
  rw [if_neg (show ¬ (iffC c n).kind = 1 by simp [iffC]), if_neg (show ¬ (iffC c n).kind = 2 by simp [iffC]), if_pos (show (iffC c n).kind = 3 from rfl)]
  unfold iffB
  rw [hv', hs']; rfl
theorem holds_lin {c : Con} (h1 : c.kind = 1) (row : List Int) : holdsB c row = relB c.rel (dotI c.coefs (valsOf c row)) c.const := by
  unfold holdsB
  rw [if_pos h1]
theorem holds_cont {c : Con} {n : Int} (h1 : c.kind = 1) (hk : rightB c n = true) (row : List Int) : holdsB (contC c) row = !holdsB c row := by
  have hi := sumB_inv (lin_right h1 hk).2
  rw [holds_lin h1, holds_lin (c := contC c) h1]
  exact rel_contrary hi.2.2.1 _ _
theorem holds_turn {c : Con} {n : Int} (h1 : c.kind = 1) (hk : rightB c n = true) (row : List Int) : holdsB (turnC c) row = holdsB c row := by
  have hi := sumB_inv (lin_right h1 hk).2
  rw [holds_lin h1, holds_lin (c := turnC c) h1]
  simp only [turnC, dotI_neg]
  exact rel_about hi.2.2.1 _ _
theorem vals_iff {c : Con} {row : List Int} (hk : rightB c row.length = true) (x : Int) : valsOf (iffC c row.length) (row ++ [x]) = x :: valsOf c row := by
  have hr := (kd hk).vars.2
  unfold valsOf iffC
  simp only [List.map_cons, List.cons.injEq]
  refine ⟨by simp, List.map_congr_left fun v hv => ?_⟩
  have := hr v hv
  have hlt : v.toNat < row.length := by omega
  simp [List.getElem?_append_left hlt]
theorem holds_iff {c : Con} {row : List Int} (h1 : c.kind = 1) (hk : rightB c row.length = true) (x : Int) : holdsB (iffC c row.length) (row ++ [x]) = ((decide (x = 1) && holdsB c row) || (decide (x = 0) && !holdsB c row)) := by
  rw [holds_lin h1]
  unfold holdsB
  rw [if_neg (show ¬ (iffC c row.length).kind = 1 by simp [iffC]), if_neg (show ¬ (iffC c row.length).kind = 2 by simp [iffC]), if_pos (show (iffC c row.length).kind = 3 from rfl), vals_iff hk]
  rfl
theorem allB_one {c : Con} {row : List Int} : allB [c] row = (withinB 1048576 row && (rightB c row.length && holdsB c row)) := by
  simp [allB, gRightB, Bool.and_assoc]
end Go.RR.M
set_option linter.unusedVariables false
set_option linter.unusedSimpArgs false
set_option maxRecDepth 100000
set_option maxHeartbeats 8000000
namespace Go.RR
@[simp] theorem o_iaa_ptr {nid n sz id a k tot : Nat} {h : List Ob} {kd : IntKind} {m : Int} : opJ nid h (.iaa n sz) [.ptr id a k tot, .int kd m] = if 0 ≤ m ∧ m < n then ob (rowOf h id tot) fun _ => some (.ptr id a (k + m.toNat * sz) tot, none) else none := by
  simp only [opJ]
  split
  · cases rowOf h id tot <;> rfl
  · rfl
end Go.RR
namespace Go.RR.M
open Go Go.RR
def negs (c : Con) : List V := c.coefs.map fun x => iv (-x)
theorem negs_len (c : Con) : (negs c).length = c.coefs.length := by simp [negs]
theorem negs_get (c : Con) (i : Nat) (h : i < (negs c).length) : (negs c)[i] = iv (-(c.coefs[i]'(by rw [negs_len] at h; exact h))) := by simp [negs]
theorem turn_loop (c : Con) (row : List Int) (is : Bool) (a b : Int) (r0 r1 r2 r3 : Ob) (hl : c.coefs.length ≤ 150) (hs : ∀ x ∈ c.coefs, smallI x) : ∀ (k i : Nat), i + k = c.coefs.length → 1 ≤ i →
    evw C i_law11_GroundTurn_l0 [(1, intsV row), (2, .ptr 0 0 0 1), (7, .bool is), (8, .ptr 3 0 0 1), (9, .ptr 4 0 0 1), (57, intsV c.coefs), (58, iv c.coefs.length), (59, iv i)] [r0, r1, r2, r3, .row 6 [.agg [iv c.kind, intsV c.vars, .own 5 0 i i, iv a, iv b, intsV c.nums]], .row 1 ((negs c).take i)] =
      some (.ext 0, [(1, intsV row), (2, .ptr 0 0 0 1), (7, .bool is), (8, .ptr 3 0 0 1), (9, .ptr 4 0 0 1), (57, intsV c.coefs), (58, iv c.coefs.length), (59, iv c.coefs.length), (60, .bool false)], [r0, r1, r2, r3, .row 6 [.agg [iv c.kind, intsV c.vars, .own 5 0 c.coefs.length c.coefs.length, iv a, iv b, intsV c.nums]], .row 1 (negs c)]) := by
  intro k
  induction k with
  | zero =>
    intro i hi h1
    have : i = c.coefs.length := by omega
    subst this
    have e : (negs c).take c.coefs.length = negs c := List.take_of_length_le (by rw [negs_len]; exact Nat.le_refl _)
    rw [r_law11_GroundTurn_0, e]
    simp [b_law11_GroundTurn_0]
  | succ k ih =>
    intro i hi h1
    have hlt : i < c.coefs.length := by omega
    have hw := wrap_succ hlt (by omega)
    have ih := ih (i + 1) (by omega) (by omega)
    simp only [Int.natCast_add, Int.cast_ofNat_Int] at ih
    have hsm := hs _ (List.getElem_mem hlt)
    have wn : IntKind.i64.wrap (-c.coefs[i]) = -c.coefs[i] := wrap64 (by have := hsm.2; omega) (by have := hsm.1; omega)
    have e1 : appV 6 [r0, r1, r2, r3, .row 6 [.agg [iv c.kind, intsV c.vars, .own 5 0 i i, iv a, iv b, intsV c.nums]], .row 1 ((negs c).take i)] 1 8 (.own 5 0 i i) (.sl 1 [iv (-c.coefs[i])]) = some (.own 5 0 (i + 1) (i + 1), some (5, .row 1 ((negs c).take i ++ [iv (-c.coefs[i])]))) :=
      appV_own rfl (by rw [List.length_take, negs_len]; omega) rfl (by simp) rfl (by omega) (by omega)
    have t1 : (negs c).take i ++ [iv (-c.coefs[i])] = (negs c).take (i + 1) := by
      rw [← List.take_append_getElem (by rw [negs_len]; exact hlt), negs_get]
    have k4 : ∀ x : Int, bsfL (.int .i64 0) [iv x] = some (.sl 1 [iv x]) := fun _ => rfl
    rw [r_law11_GroundTurn_0, ← ih, ← t1]
    simp [b_law11_GroundTurn_0, hlt, hw, wn, e1, k4]
theorem turn_all (c : Con) (row : List Int) (is : Bool) (a b : Int) (r0 r1 r2 r3 : Ob) (hl : c.coefs.length ≤ 150) (h1 : 1 ≤ c.coefs.length) (hs : ∀ x ∈ c.coefs, smallI x) :
    evw C i_law11_GroundTurn_l0 [(1, intsV row), (2, .ptr 0 0 0 1), (7, .bool is), (8, .ptr 3 0 0 1), (9, .ptr 4 0 0 1), (57, intsV c.coefs), (58, iv c.coefs.length), (59, iv 0)] [r0, r1, r2, r3, .row 6 [.agg [iv c.kind, intsV c.vars, .nsl 1, iv a, iv b, intsV c.nums]]] =
      some (.ext 0, [(1, intsV row), (2, .ptr 0 0 0 1), (7, .bool is), (8, .ptr 3 0 0 1), (9, .ptr 4 0 0 1), (57, intsV c.coefs), (58, iv c.coefs.length), (59, iv c.coefs.length), (60, .bool false)], [r0, r1, r2, r3, .row 6 [.agg [iv c.kind, intsV c.vars, .own 5 0 c.coefs.length c.coefs.length, iv a, iv b, intsV c.nums]], .row 1 (negs c)]) := by
  obtain ⟨n, hn⟩ : ∃ n, c.coefs.length = n + 1 := ⟨c.coefs.length - 1, by omega⟩
  have ih := turn_loop c row is a b r0 r1 r2 r3 hl hs n 1 (by omega) (by omega)
  simp only [Int.cast_ofNat_Int] at ih
  have hp : 0 < c.coefs.length := by omega
  have hsm := hs _ (List.getElem_mem hp)
  have wn : IntKind.i64.wrap (-c.coefs[0]) = -c.coefs[0] := wrap64 (by have := hsm.2; omega) (by have := hsm.1; omega)
  have e1 : appV 5 [r0, r1, r2, r3, .row 6 [.agg [iv c.kind, intsV c.vars, .nsl 1, iv a, iv b, intsV c.nums]]] 1 8 (.nsl 1) (.sl 1 [iv (-c.coefs[0])]) = some (.own 5 0 1 1, some (5, .row 1 [iv (-c.coefs[0])])) := appV_nsl rfl (by simp) rfl (by omega) (by omega)
  have t1 : (negs c).take 1 = [iv (-c.coefs[0])] := by
    have := List.take_append_getElem (l := negs c) (i := 0) (by rw [negs_len]; exact hp)
    rw [negs_get] at this
    simpa using this.symm
  rw [t1] at ih
  have k4 : ∀ x : Int, bsfL (.int .i64 0) [iv x] = some (.sl 1 [iv x]) := fun _ => rfl
  rw [r_law11_GroundTurn_0, ← ih]
  simp [b_law11_GroundTurn_0, hp, wn, e1, k4]
theorem gHolds_of (c : Con) (row : List Int) (hc : c150 c) (hr : row.length ≤ 4611686018427387904) {args : List V} {h : List Ob} (hf : frzL h args = some [conV c, intsV row]) : acw C n_ground_Holds args h = some (.ret (.bool (allB [c] row)), h) :=
  acw_of_frz (CT T_ground_Holds) rfl hf rfl (gHolds c row hr hc []) rfl
theorem allB_ok {c : Con} {row : List Int} (h1 : withinB 1048576 row = true) (h2 : rightB c row.length = true) : allB [c] row = holdsB c row := by
  rw [allB_one, h1, h2]; rfl
theorem within_app {row : List Int} {x : Int} (h : withinB 1048576 row = true) (hx : smallI x) : withinB 1048576 (row ++ [x]) = true := by
  rw [withinB_iff] at h ⊢
  intro y hy
  rcases List.mem_append.1 hy with hy | hy
  · exact h y hy
  · rw [List.mem_singleton.1 hy]; exact hx
end Go.RR.M
set_option linter.unusedVariables false
set_option linter.unusedSimpArgs false
set_option maxRecDepth 100000
set_option maxHeartbeats 16000000
namespace Go.RR
@[simp] theorem over_int {k : IntKind} {n : Int} {c : V} : over (.int k n) 0 [c] = some c := rfl
@[simp] theorem over_bool {b : Bool} {c : V} : over (.bool b) 0 [c] = some c := rfl
theorem frz_own_ints {h : List Ob} {id n : Nat} {l : List Int} (e : h[id]? = some (.row 1 (l.map (V.int .i64)))) (hn : n = l.length) (k : Nat) : frz h (k + 2) (.own id 0 n n) = some (intsV l) := by
  have := AccB.frz (B := 0) (h := h) (v := .own id 0 n n) (z := 1) (xs := l.map (V.int .i64)) (k + 1) (.own (Nat.zero_le _) (by simpa using hn) e) (frz_ints _ _ _)
  exact this
end Go.RR
namespace Go.RR.M
open Go Go.RR
theorem frz_con {h : List Ob} {k a b : Int} {x y z : V} {l m n : List Int} (hx : frz h 11 x = some (intsV l)) (hy : frz h 11 y = some (intsV m)) (hz : frz h 11 z = some (intsV n)) : frz h 12 (.agg [iv k, x, y, iv a, iv b, z]) = some (conV ⟨k, l, m, a, b, n⟩) := by
  show (mapO (frz h 11) [iv k, x, y, iv a, iv b, z]).map V.agg = _
  simp only [mapO, hx, hy, hz, show ∀ n : Int, frz h 11 (iv n) = some (iv n) from fun _ => rfl, Option.map_some]
theorem frz_two_args {h : List Ob} {x y : V} {c : Con} {l : List Int} (hx : frz h 12 x = some (conV c)) (hy : frz h 12 y = some (intsV l)) : frzL h [x, y] = some [conV c, intsV l] := by
  show mapO (frz h 12) _ = _
  simp only [mapO, hx, hy]
theorem turn (c : Con) (row : List Int) (h : List Ob) : acw C n_law11_GroundTurn [conV c, intsV row] h = some (.ret (.bool true), h) := by
  refine acw_ex (v := .bool true) (CT T_law11_GroundTurn) rfl rfl (fun _ => rfl) (by simp) ?_
  have k0 := awake
  have k1 := gLarge [c] row
  have k4 : bsfL (.agg [.int .i64 0, .nsl 1, .nsl 1, .int .i64 0, .int .i64 0, .nsl 1]) [conV c] = some (.sl 6 [conV c]) := rfl
  simp only [consV, List.map_cons, List.map_nil] at k1
  rcases Bool.eq_false_or_eq_true (gLargeB [c] row) with e | e <;> rw [e] at k1
  · simp [runW_fin, F_law11_GroundTurn, i_law11_GroundTurn, k0, k1, k4]
  obtain ⟨-, hrow, hc⟩ := gLarge_inv e
  have hc := hc c (by simp)
  by_cases hkd : c.kind = 1
  case neg => simp [runW_fin, F_law11_GroundTurn, i_law11_GroundTurn, k0, k1, k4, hkd, ine]
  have k2 := gRight [c] row (by simp) (by omega) (by simpa using hc)
  simp only [consV, List.map_cons, List.map_nil] at k2
  rcases Bool.eq_false_or_eq_true (gRightB [c] row) with eg | eg <;> rw [eg] at k2
  case inr =>
    obtain ⟨kind, vars, coefs, rel, const, nums⟩ := c
    dsimp only at *
    subst hkd
    simp [runW_fin, F_law11_GroundTurn, i_law11_GroundTurn, k0, k1, k2, k4]
  have hwi : withinB 1048576 row = true := by
    unfold gRightB at eg; simp only [Bool.and_eq_true] at eg; exact eg.1
  obtain ⟨hsm, hrt⟩ := gRight_inv eg
  have hrt := hrt c (by simp)
  have hlin := lin_right hkd hrt
  have hs := sumB_inv hlin.2
  have hv := varsB_inv hlin.1
  have hcl : 1 ≤ c.coefs.length := by omega
  have hcl2 := hc.2.1
  have hpos : 0 < row.length := by
    rcases Nat.eq_zero_or_pos row.length with h0 | h0
    · exfalso
      have hv0 : 0 < c.vars.length := by omega
      have := hv.2 _ (List.getElem_mem hv0)
      omega
    · exact h0
  have hne : row.map (V.int .i64) ≠ [] := fun e => by
    have := congrArg List.length e
    simp at this
    rw [this] at hpos
    simp at hpos
  have hvne : c.vars.map (V.int .i64) ≠ [] := fun e => by
    have := congrArg List.length e
    simp at this
    have := hv.1.1
    simp_all
  -- what holds
  have kis := gHolds c row (by omega) hc
  rw [allB_ok hwi hrt] at kis
  have eD := allB_ok hwi (cont_right hkd hrt)
  rw [holds_cont hkd hrt] at eD
  have eT := allB_ok hwi (turn_right hkd hrt)
  rw [holds_turn hkd hrt] at eT
  have eI : ∀ x, smallI x → allB [iffC c row.length] (row ++ [x]) = ((decide (x = 1) && holdsB c row) || (decide (x = 0) && !holdsB c row)) := fun x hx => by
    rw [allB_ok (within_app hwi hx) (by rw [List.length_append, List.length_singleton, Int.natCast_add]; exact iff_right hkd hrt), holds_iff hkd hrt]
  have cD : c150 (contC c) := hc
  have cT : c150 (turnC c) := ⟨hc.1, by simpa [turnC] using hc.2.1, hc.2.2⟩
  have cI : c150 (iffC c row.length) := ⟨by simp only [iffC, List.length_cons]; omega, hc.2.1, by simp [iffC]⟩
  obtain ⟨kind, vars, coefs, rel, const, nums⟩ := c
  dsimp only at *
  subst hkd
  have hr6 : rel < 6 := by omega
  have hr0 : 0 ≤ rel := hs.2.2.1.1
  have q1 : ([iv 1, iv 0, iv 5, iv 4, iv 3, iv 2] : List V)[rel.toNat]? = some (iv (contrary rel)) := by
    rcases rel6 hs.2.2.1 with rfl | rfl | rfl | rfl | rfl | rfl <;> rfl
  have q2 : ([iv 0, iv 1, iv 4, iv 5, iv 2, iv 3] : List V)[rel.toNat]? = some (iv (about rel)) := by
    rcases rel6 hs.2.2.1 with rfl | rfl | rfl | rfl | rfl | rfl <;> rfl
  have q1' : ∀ h, ([iv 1, iv 0, iv 5, iv 4, iv 3, iv 2] : List V)[rel.toNat]'h = iv (contrary rel) := fun h => (List.getElem?_eq_some_iff.1 q1).2
  have q2' : ∀ h, ([iv 0, iv 1, iv 4, iv 5, iv 2, iv 3] : List V)[rel.toNat]'h = iv (about rel) := fun h => (List.getElem?_eq_some_iff.1 q2).2
  have wc : IntKind.i64.wrap (-const) = -const := wrap64 (by omega) (by omega)
  obtain ⟨is, his⟩ : ∃ is, is = holdsB ⟨1, vars, coefs, rel, const, nums⟩ row := ⟨_, rfl⟩
  rw [← his] at kis eD eT eI
  obtain ⟨r0, hr0'⟩ : ∃ r, r = Ob.row 6 [conV ⟨1, vars, coefs, rel, const, nums⟩] := ⟨_, rfl⟩
  obtain ⟨r1, hr1'⟩ : ∃ r, r = Ob.row 6 [.agg [iv 1, iv 0, iv 5, iv 4, iv 3, iv 2]] := ⟨_, rfl⟩
  obtain ⟨r2, hr2'⟩ : ∃ r, r = Ob.row 6 [.agg [iv 0, iv 1, iv 4, iv 5, iv 2, iv 3]] := ⟨_, rfl⟩
  obtain ⟨r3, hr3'⟩ : ∃ r, r = Ob.row 6 [.agg [iv 1, intsV vars, intsV coefs, iv (contrary rel), iv const, intsV nums]] := ⟨_, rfl⟩
  have loop := turn_all ⟨1, vars, coefs, rel, const, nums⟩ row is (about rel) (-const) r0 r1 r2 r3 hcl2 hcl hs.2.1
  dsimp only at loop
  obtain ⟨ng, hng⟩ : ∃ l, l = negs ⟨1, vars, coefs, rel, const, nums⟩ := ⟨_, rfl⟩
  rw [← hng] at loop
  have a1 : appV 7 [r0, r1, r2, r3, .row 6 [.agg [iv 1, intsV vars, .own 5 0 coefs.length coefs.length, iv (about rel), iv (-const), intsV nums]], .row 1 ng, .row 1 []] 1 8 (.own 6 0 0 0) (intsV row) = some (.own 6 0 row.length row.length, some (6, .row 1 (row.map (V.int .i64)))) :=
    appV_own (xs := []) (ys := row.map (V.int .i64)) (m := row.length) rfl rfl rfl hne (by simp) (by omega) (by omega)
  have a2 : appV 7 [r0, r1, r2, r3, .row 6 [.agg [iv 1, intsV vars, .own 5 0 coefs.length coefs.length, iv (about rel), iv (-const), intsV nums]], .row 1 ng, .row 1 (row.map (V.int .i64))] 1 8 (.own 6 0 row.length row.length) (.sl 1 [iv 1]) = some (.own 6 0 (row.length + 1) (row.length + 1), some (6, .row 1 (row.map (V.int .i64) ++ [iv 1]))) :=
    appV_own rfl (by simp) rfl (by simp) rfl (by omega) (by omega)
  have a3 : appV 8 [r0, r1, r2, r3, .row 6 [.agg [iv 1, intsV vars, .own 5 0 coefs.length coefs.length, iv (about rel), iv (-const), intsV nums]], .row 1 ng, .row 1 (row.map (V.int .i64) ++ [iv 1]), .row 1 [iv row.length]] 1 8 (.own 7 0 1 1) (intsV vars) = some (.own 7 0 (1 + vars.length) (1 + vars.length), some (7, .row 1 (iv row.length :: vars.map (V.int .i64)))) :=
    appV_own (xs := [iv row.length]) (ys := vars.map (V.int .i64)) (m := 1 + vars.length) rfl rfl rfl hvne (by simp) (by have := hc.1; dsimp only at this; omega) (by have := hc.1; dsimp only at this; omega)
  have kD : ∀ h, acw C n_ground_Holds [.agg [iv 1, intsV vars, intsV coefs, iv (contrary rel), iv const, intsV nums], intsV row] h = some (.ret (.bool (!is)), h) := fun h => by
    have := gHolds (contC ⟨1, vars, coefs, rel, const, nums⟩) row (by omega) cD h
    rw [eD] at this
    exact this
  obtain ⟨HF, hHF⟩ : ∃ H : Int → List Ob, ∀ x, H x = [r0, r1, r2, r3, .row 6 [.agg [iv 1, intsV vars, .own 5 0 coefs.length coefs.length, iv (about rel), iv (-const), intsV nums]], .row 1 ng, .row 1 (row.map (V.int .i64) ++ [iv x]), .row 1 (iv row.length :: vars.map (V.int .i64)), .row 6 [.agg [iv 3, .own 7 0 (1 + vars.length) (1 + vars.length), intsV coefs, iv rel, iv const, .nsl 1]]] := ⟨fun x => [r0, r1, r2, r3, .row 6 [.agg [iv 1, intsV vars, .own 5 0 coefs.length coefs.length, iv (about rel), iv (-const), intsV nums]], .row 1 ng, .row 1 (row.map (V.int .i64) ++ [iv x]), .row 1 (iv row.length :: vars.map (V.int .i64)), .row 6 [.agg [iv 3, .own 7 0 (1 + vars.length) (1 + vars.length), intsV coefs, iv rel, iv const, .nsl 1]]], fun _ => rfl⟩
  have kT : ∀ x, acw C n_ground_Holds [.agg [iv 1, intsV vars, .own 5 0 coefs.length coefs.length, iv (about rel), iv (-const), intsV nums], intsV row] (HF x) = some (.ret (.bool is), HF x) := fun x => by
    have := gHolds_of (turnC ⟨1, vars, coefs, rel, const, nums⟩) row cT (by omega) (h := HF x) (args := [.agg [iv 1, intsV vars, .own 5 0 coefs.length coefs.length, iv (about rel), iv (-const), intsV nums], intsV row]) (frz_two_args (frz_con (l := vars) rfl (frz_own_ints (l := coefs.map fun x => -x) (by rw [hHF, hng]; simp [negs]) (by simp) 9) rfl) rfl)
    rw [eT] at this
    exact this
  have kI : ∀ x, smallI x → acw C n_ground_Holds [.agg [iv 3, .own 7 0 (1 + vars.length) (1 + vars.length), intsV coefs, iv rel, iv const, .nsl 1], .own 6 0 (row.length + 1) (row.length + 1)] (HF x) = some (.ret (.bool ((decide (x = 1) && is) || (decide (x = 0) && !is))), HF x) := fun x hx => by
    have := gHolds_of (iffC ⟨1, vars, coefs, rel, const, nums⟩ row.length) (row ++ [x]) cI (by simp; omega) (h := HF x) (args := [.agg [iv 3, .own 7 0 (1 + vars.length) (1 + vars.length), intsV coefs, iv rel, iv const, .nsl 1], .own 6 0 (row.length + 1) (row.length + 1)]) (frz_two_args (frz_con (l := (row.length : Int) :: vars) (m := coefs) (n := []) (frz_own_ints (by rw [hHF]; simp) (by simp; omega) 9) rfl rfl) (frz_own_ints (by rw [hHF]; simp) (by simp) 10))
    rw [eI x hx] at this
    exact this
  have kI1 := kI 1 ⟨by decide, by decide⟩
  have kI0 := kI 0 ⟨by decide, by decide⟩
  have kI2 := kI 2 ⟨by decide, by decide⟩
  have kT2 := kT 2
  rw [hHF] at kI1 kI0 kI2 kT2
  have hset : ∀ x y : Int, (row.map (V.int .i64) ++ [iv x]).set row.length (iv y) = row.map (V.int .i64) ++ [iv y] := fun x y => by
    rw [List.set_append_right _ _ (by simp)]
    simp
  have hl1 : (row.length : Int) < (row.length : Int) + 1 := by omega
  have k5 : bsfL (.int .i64 0) [iv 1] = some (.sl 1 [iv 1]) := rfl
  subst hr0' hr1' hr2' hr3'
  simp only [conV, intsV] at *
  cases is <;> simp [runW_fin, F_law11_GroundTurn, i_law11_GroundTurn, k0, k1, k2, k4, k5, kis, hr0, hr6, q1', q2', wc, hl1, loop, a1, a2, a3, kD, kT2, kI1, kI0, kI2, hset, ieq, ine]
end Go.RR.M
