/- The law on orders: plain facts. -/
import Derived.Test.YtbcgpomifflijaaRG2
set_option linter.unusedVariables false
set_option linter.unusedSimpArgs false
set_option linter.unusedVariables false
set_option linter.unusedSimpArgs false
set_option maxRecDepth 100000
namespace Go.RR
theorem vOK_iff {n : Int} : ∀ (l pre : List Int), pre.Nodup → (vOK n pre l = true ↔ (∀ v ∈ l, 0 ≤ v ∧ v < n) ∧ (pre ++ l).Nodup)
  | [], pre, h => by simp [vOK, h]
  | v :: r, pre, h => by
    simp only [vOK, Bool.and_eq_true, decide_eq_true_eq, Bool.not_eq_true']
    by_cases hv : v ∈ pre
    · have h1 : (pre.any fun x => v == x) = true := List.any_eq_true.2 ⟨v, hv, by simp⟩
      rw [h1]
      constructor
      · rintro ⟨⟨_, h2⟩, _⟩; cases h2
      · rintro ⟨_, hn⟩
        rw [List.nodup_append] at hn
        exact absurd rfl (hn.2.2 v hv v (by simp))
    · have h1 : (pre.any fun x => v == x) = false := by
        rw [Bool.eq_false_iff]
        intro e
        obtain ⟨y, hy, e⟩ := List.any_eq_true.1 e
        exact hv (by rw [beq_iff_eq.1 e]; exact hy)
      have hn : (pre ++ [v]).Nodup := by
        rw [List.nodup_append]
        refine ⟨h, by simp, fun a ha b hb => ?_⟩
        simp only [List.mem_singleton] at hb
        subst hb
        exact fun e => hv (e ▸ ha)
      rw [h1, vOK_iff r (pre ++ [v]) hn, List.append_assoc]
      simp only [List.mem_cons, List.singleton_append]
      constructor
      · rintro ⟨⟨⟨a, b⟩, _⟩, c, d⟩
        exact ⟨fun x hx => hx.elim (fun e => by rw [e]; exact ⟨a, b⟩) (c x), d⟩
      · rintro ⟨c, d⟩
        exact ⟨⟨⟨(c v (.inl rfl)).1, (c v (.inl rfl)).2⟩, trivial⟩, fun x hx => c x (.inr hx), d⟩
theorem vOK_perm {n : Int} {l m : List Int} (p : l.Perm m) (h : vOK n [] l = true) : vOK n [] m = true := by
  rw [vOK_iff _ _ .nil] at h ⊢
  simp only [List.nil_append] at h ⊢
  exact ⟨fun v hv => h.1 v (p.mem_iff.2 hv), p.nodup_iff.1 h.2⟩
theorem rot_perm {α : Type} (l : List α) (k : Nat) : l.Perm (l.drop k ++ l.take k) := by
  have := List.perm_append_comm (l₁ := l.take k) (l₂ := l.drop k)
  rw [List.take_append_drop] at this
  exact this
theorem withinB_perm {m : Int} {l r : List Int} (p : l.Perm r) (h : withinB m l = true) : withinB m r = true := by
  rw [withinB_iff] at h ⊢
  exact fun x hx => h x (p.mem_iff.2 hx)
theorem tabN_iff {n : Nat} {vals : List Int} : ∀ (k : Nat) (nums : List Int), tabN n vals k nums = true ↔ ∃ j, j < k ∧ (nums.drop (j * n)).take n = vals
  | 0, nums => by simp [tabN]
  | k + 1, nums => by
    simp only [tabN, Bool.or_eq_true, decide_eq_true_eq, tabN_iff k]
    constructor
    · rintro (h | ⟨j, hj, h⟩)
      · exact ⟨0, by omega, by simpa using h⟩
      · exact ⟨j + 1, by omega, by rw [List.drop_drop] at h; rw [Nat.add_mul, Nat.one_mul, Nat.add_comm]; exact h⟩
    · rintro ⟨j, hj, h⟩
      cases j with
      | zero => exact .inl (by simpa using h)
      | succ j =>
        refine .inr ⟨j, by omega, ?_⟩
        rw [List.drop_drop]
        rw [Nat.add_mul, Nat.one_mul, Nat.add_comm] at h
        exact h
/-- rows of a table, turned about -/
theorem tab_rot {n q m : Nat} {nums vals : List Int} (hn : 0 < n) (hl : nums.length = q * n) (hm : m ≤ q) : tabN n vals q (nums.drop (m * n) ++ nums.take (m * n)) = tabN n vals q nums := by
  have hmn : m * n ≤ q * n := Nat.mul_le_mul_right n hm
  have hld : (nums.drop (m * n)).length = (q - m) * n := by rw [List.length_drop, hl, Nat.sub_mul]
  -- which row it is
  have a1 : ∀ j, j < q - m → ((nums.drop (m * n) ++ nums.take (m * n)).drop (j * n)).take n = (nums.drop ((j + m) * n)).take n := by
    intro j hj
    have h1 : (j + 1) * n ≤ (q - m) * n := Nat.mul_le_mul_right n (by omega)
    rw [Nat.add_mul, Nat.one_mul] at h1
    rw [List.drop_append_of_le_length (by rw [hld]; omega), List.take_append_of_le_length (by rw [List.length_drop, hld]; omega), List.drop_drop]
    rw [Nat.add_mul, Nat.add_comm]
  have a2 : ∀ j, q - m ≤ j → j < q → ((nums.drop (m * n) ++ nums.take (m * n)).drop (j * n)).take n = (nums.drop ((j - (q - m)) * n)).take n := by
    intro j hj hjq
    have e : j * n = (nums.drop (m * n)).length + (j - (q - m)) * n := by
      rw [hld, ← Nat.add_mul]; congr 1; omega
    rw [e, List.drop_append, List.drop_eq_nil_of_le (by omega), List.nil_append, Nat.add_sub_cancel_left, List.drop_take, List.take_take]
    congr 1
    have h1 : (j - (q - m) + 1) * n ≤ m * n := Nat.mul_le_mul_right n (by omega)
    rw [Nat.add_mul, Nat.one_mul] at h1
    omega
  rw [Bool.eq_iff_iff, tabN_iff, tabN_iff]
  constructor
  · rintro ⟨j, hj, h⟩
    rcases Nat.lt_or_ge j (q - m) with h1 | h1
    · rw [a1 j h1] at h
      exact ⟨j + m, by omega, h⟩
    · rw [a2 j h1 hj] at h
      exact ⟨j - (q - m), by omega, h⟩
  · rintro ⟨j, hj, h⟩
    rcases Nat.lt_or_ge j m with h1 | h1
    · refine ⟨j + (q - m), by omega, ?_⟩
      rw [a2 _ (by omega) (by omega), Nat.add_sub_cancel]
      exact h
    · refine ⟨j - m, by omega, ?_⟩
      rw [a1 _ (by omega), Nat.sub_add_cancel h1]
      exact h
/-- what is no variable's, another value -/
def turnN (vars : List Int) (o : Int) : Nat → List Int → List Int
  | _, [] => []
  | i, x :: r => (if (vars.any fun v => v == (i : Int)) = true then x else o) :: turnN vars o (i + 1) r
theorem turnN_len {vars : List Int} {o : Int} : ∀ {l : List Int} {i : Nat}, (turnN vars o i l).length = l.length
  | [], _ => rfl
  | x :: r, i => by simp [turnN, turnN_len (l := r)]
theorem turnN_get {vars : List Int} {o : Int} : ∀ {l : List Int} {i k : Nat} (h : k < l.length), (turnN vars o i l)[k]? = some (if (vars.any fun v => v == ((i + k : Nat) : Int)) = true then l[k] else o)
  | [], _, _, h => by simp at h
  | x :: r, i, 0, h => by simp [turnN]
  | x :: r, i, k + 1, h => by
    simp only [turnN, List.getElem?_cons_succ, List.getElem_cons_succ]
    rw [turnN_get (l := r) (i := i + 1) (k := k) (by simpa using h)]
    rw [show i + 1 + k = i + (k + 1) by omega]
theorem turnN_mem {vars : List Int} {o : Int} : ∀ {l : List Int} {i : Nat} {x : Int}, x ∈ turnN vars o i l → x ∈ l ∨ x = o
  | [], _, _, h => by simp [turnN] at h
  | y :: r, i, x, h => by
    simp only [turnN, List.mem_cons] at h
    rcases h with h | h
    · split at h
      · exact .inl (by simp [h])
      · exact .inr h
    · rcases turnN_mem h with h | h
      · exact .inl (by simp [h])
      · exact .inr h
end Go.RR
namespace Go.RR.M
open Go Go.RR
theorem vals_turn {c : Con} {row : List Int} (hr : ∀ v ∈ c.vars, 0 ≤ v ∧ v < row.length) (o : Int) : valsOf c (turnN c.vars o 0 row) = valsOf c row := by
  unfold valsOf
  refine List.map_congr_left fun v hv => ?_
  obtain ⟨h0, h1⟩ := hr v hv
  have hlt : v.toNat < row.length := by omega
  have := turnN_get (vars := c.vars) (o := o) (i := 0) hlt
  rw [if_pos (List.any_eq_true.2 ⟨v, hv, by simp; omega⟩)] at this
  simp [this, hlt]
theorem holds_vals {c : Con} {row row' : List Int} (h : valsOf c row' = valsOf c row) : holdsB c row' = holdsB c row := by
  unfold holdsB
  rw [h]
theorem turn_ok {c : Con} {row : List Int} (hw : withinB 1048576 row = true) (hk : rightB c row.length = true) {o : Int} (ho : 0 ≤ o ∧ o ≤ 255) : allB [c] (turnN c.vars o 0 row) = allB [c] row := by
  have hr := (kd hk).vars.2
  have hw' : withinB 1048576 (turnN c.vars o 0 row) = true := by
    rw [withinB_iff] at hw ⊢
    intro x hx
    rcases turnN_mem hx with h | rfl
    · exact hw x h
    · omega
  rw [allB_ok hw hk, allB_ok hw' (by rw [turnN_len]; exact hk)]
  exact holds_vals (vals_turn hr o)
def difC (c : Con) (k : Nat) : Con := ⟨c.kind, c.vars.drop k ++ c.vars.take k, c.coefs, c.rel, c.const, c.nums⟩
def tabC (c : Con) (k : Nat) : Con := ⟨c.kind, c.vars, c.coefs, c.rel, c.const, c.nums.drop k ++ c.nums.take k⟩
theorem dif_ok {c : Con} {row : List Int} (hw : withinB 1048576 row = true) (hk : rightB c row.length = true) (h5 : c.kind = 5) (k : Nat) : allB [difC c k] row = allB [c] row := by
  have hd : rightB (difC c k) row.length = true := by
    have hk' := hk
    unfold rightB at hk' ⊢
    simp only [difC, h5] at hk' ⊢
    simp only [show ¬ ((5 : Int) = 1) by decide, show ¬ ((5 : Int) = 2) by decide, show ¬ ((5 : Int) = 3) by decide, show ¬ ((5 : Int) = 4) by decide, if_true, if_false] at hk' ⊢
    unfold differB varsB bareB at *
    simp only [Bool.and_eq_true, decide_eq_true_eq] at hk' ⊢
    obtain ⟨⟨a, b⟩, r⟩ := hk'
    have hl : (c.vars.drop k ++ c.vars.take k).length = c.vars.length := (rot_perm c.vars k).length_eq.symm
    exact ⟨⟨by rw [hl]; exact a, vOK_perm (rot_perm c.vars k) b⟩, r⟩
  rw [allB_ok hw hk, allB_ok hw hd]
  unfold holdsB
  simp only [difC, h5]
  simp only [show ¬ ((5 : Int) = 1) by decide, show ¬ ((5 : Int) = 2) by decide, show ¬ ((5 : Int) = 3) by decide, show ¬ ((5 : Int) = 4) by decide, if_true, if_false]
  have : (valsOf ⟨5, c.vars.drop k ++ c.vars.take k, c.coefs, c.rel, c.const, c.nums⟩ row).Perm (valsOf c row) := ((rot_perm c.vars k).map _).symm
  simp only [this.nodup_iff]
theorem tab_ok {c : Con} {row : List Int} (hw : withinB 1048576 row = true) (hk : rightB c row.length = true) (h6 : c.kind = 6) (m : Nat) (hm : m ≤ c.nums.length / c.vars.length) : allB [tabC c (m * c.vars.length)] row = allB [c] row := by
  have K := kd hk
  obtain ⟨⟨h1, -⟩, -⟩ := K.vars
  have hmod : c.nums.length % c.vars.length = 0 := by
    cases K with
    | tab _ _ _ hm =>
      rw [Int.tmod_eq_emod_of_nonneg (by omega)] at hm
      omega
    | lin h _ _ => omega
    | prod h _ _ => omega
    | iff h _ _ => omega
    | elt h _ _ => omega
    | dif h _ _ => omega
  have hdiv := Nat.div_add_mod c.nums.length c.vars.length
  rw [hmod, Nat.add_zero, Nat.mul_comm] at hdiv
  have hl : (c.nums.drop (m * c.vars.length) ++ c.nums.take (m * c.vars.length)).length = c.nums.length := (rot_perm c.nums _).length_eq.symm
  have hd : rightB (tabC c (m * c.vars.length)) row.length = true := by
    have hk' := hk
    unfold rightB at hk' ⊢
    simp only [tabC, h6] at hk' ⊢
    simp only [show ¬ ((6 : Int) = 1) by decide, show ¬ ((6 : Int) = 2) by decide, show ¬ ((6 : Int) = 3) by decide, show ¬ ((6 : Int) = 4) by decide, show ¬ ((6 : Int) = 5) by decide, if_true, if_false] at hk' ⊢
    unfold tableB bareB varsB at *
    simp only [Bool.and_eq_true, decide_eq_true_eq] at hk' ⊢
    obtain ⟨a, ⟨b1, b2, b3, b4, b5, b6⟩, d⟩ := hk'
    exact ⟨a, ⟨b1, b2, b3, by rw [hl]; exact b4, by rw [hl]; exact b5, withinB_perm (rot_perm c.nums _) b6⟩, by rw [hl]; exact d⟩
  rw [allB_ok hw hk, allB_ok hw hd]
  unfold holdsB
  simp only [tabC, h6]
  simp only [show ¬ ((6 : Int) = 1) by decide, show ¬ ((6 : Int) = 2) by decide, show ¬ ((6 : Int) = 3) by decide, show ¬ ((6 : Int) = 4) by decide, show ¬ ((6 : Int) = 5) by decide, if_true, if_false, hl]
  exact tab_rot h1 hdiv.symm hm
def proC (c : Con) (a b d : Int) : Con := ⟨c.kind, [b, a, d], c.coefs, c.rel, c.const, c.nums⟩
theorem pro_ok {c : Con} {row : List Int} (hw : withinB 1048576 row = true) (hk : rightB c row.length = true) (h2 : c.kind = 2) (a b d : Int) (hv : c.vars = [a, b, d]) : allB [proC c a b d] row = allB [c] row := by
  have hp : ([a, b, d] : List Int).Perm [b, a, d] := .swap b a [d]
  have hd : rightB (proC c a b d) row.length = true := by
    have hk' := hk
    unfold rightB at hk' ⊢
    simp only [proC, h2] at hk' ⊢
    simp only [show ¬ ((2 : Int) = 1) by decide, if_true, if_false] at hk' ⊢
    unfold productB varsB bareB at *
    simp only [Bool.and_eq_true, decide_eq_true_eq] at hk' ⊢
    obtain ⟨⟨x, y⟩, r⟩ := hk'
    rw [hv] at x y
    exact ⟨⟨x, vOK_perm hp y⟩, r⟩
  rw [allB_ok hw hk, allB_ok hw hd]
  unfold holdsB valsOf
  simp only [proC, h2, hv]
  simp only [show ¬ ((2 : Int) = 1) by decide, if_true, if_false]
  simp [Int.mul_comm]
end Go.RR.M
set_option linter.unusedVariables false
set_option linter.unusedSimpArgs false
set_option maxRecDepth 100000
set_option maxHeartbeats 16000000
namespace Go.RR.M
open Go Go.RR
theorem mine_loop (c : Con) (hl : c.vars.length ≤ 150) (B3 B9 B15 B112 B113 : V) (v : Int) (h : List Ob) : ∀ (k j : Nat) (m : Bool), j + k = c.vars.length →
    evw C i_law11_GroundOrder_l0 [(3, B3), (4, .ptr 0 0 0 1), (9, B9), (15, B15), (16, iv v), (17, .bool m), (112, B112), (113, B113), (117, intsV c.vars), (118, iv c.vars.length), (119, iv j)] h =
      some (.ext 3, [(3, B3), (4, .ptr 0 0 0 1), (9, B9), (15, B15), (16, iv v), (17, .bool (m || (c.vars.drop j).any fun x => x == v)), (112, B112), (113, B113), (117, intsV c.vars), (118, iv c.vars.length), (119, iv c.vars.length), (120, .bool false)], h) := by
  intro k
  induction k with
  | zero =>
    intro j m hj
    have : j = c.vars.length := by omega
    subst this
    rw [r_law11_GroundOrder_0, List.drop_length]
    simp [b_law11_GroundOrder_0]
  | succ k ih =>
    intro j m hj
    have hlt : j < c.vars.length := by omega
    have hw := wrap_succ hlt (by omega)
    have ih := ih (j + 1) (m || c.vars[j] == v) (by omega)
    simp only [Int.natCast_add, Int.cast_ofNat_Int, Bool.or_assoc] at ih
    rw [r_law11_GroundOrder_0, List.drop_eq_getElem_cons hlt, List.any_cons, ← ih]
    cases m with
    | true => simp [b_law11_GroundOrder_0, hlt, hw]
    | false =>
      by_cases e : c.vars[j] = v
      · simp [b_law11_GroundOrder_0, hlt, hw, e]
      · simp [b_law11_GroundOrder_0, hlt, hw, e, ieq]
theorem turn_row (c : Con) (row : List Int) (hl : c.vars.length ≤ 150) (hr : row.length ≤ 150) (o : Int) (ho : 0 ≤ o ∧ o ≤ 255) (is : Bool) (pre : List Ob) (hp : pre[0]? = some (.row 6 [conV c])) : ∀ (k i : Nat), i + k = row.length →
    ∃ fr', evw C i_law11_GroundOrder_l1 [(3, .int .u8 o), (4, .ptr 0 0 0 1), (9, .bool is), (15, .own pre.length 0 row.length row.length), (112, iv row.length), (113, iv i)] (pre ++ [.row 1 (((turnN c.vars o 0 row).take i ++ row.drop i).map (V.int .i64))]) =
      some (.ext 1, fr', pre ++ [.row 1 ((turnN c.vars o 0 row).map (V.int .i64))]) ∧ get fr' 4 = .ptr 0 0 0 1 ∧ get fr' 9 = .bool is ∧ get fr' 15 = .own pre.length 0 row.length row.length := by
  intro k
  induction k with
  | zero =>
    intro i hi
    have : i = row.length := by omega
    subst this
    have e : (turnN c.vars o 0 row).take row.length = turnN c.vars o 0 row := List.take_of_length_le (by rw [turnN_len]; exact Nat.le_refl _)
    refine ⟨[(3, .int .u8 o), (4, .ptr 0 0 0 1), (9, .bool is), (15, .own pre.length 0 row.length row.length), (112, iv row.length), (113, iv row.length), (114, .bool false)], ?_, rfl, rfl, rfl⟩
    rw [r_law11_GroundOrder_1, List.drop_length, List.append_nil, e]
    simp [b_law11_GroundOrder_1]
  | succ k ih =>
    intro i hi
    have hlt : i < row.length := by omega
    have hlt' : i < (turnN c.vars o 0 row).length := by rw [turnN_len]; exact hlt
    have hw := wrap_succ hlt (by omega)
    obtain ⟨fr', ih, g⟩ := ih (i + 1) (by omega)
    refine ⟨fr', ?_, g⟩
    have hp0 : ∀ x, (pre ++ x)[0]? = some (.row 6 [conV c]) := fun x => get_some hp
    have hp1 : ∀ x h, (pre ++ x)[0]'h = .row 6 [conV c] := fun x h => (List.getElem?_eq_some_iff.1 (hp0 x)).2
    have k0 := mine_loop c hl (.int .u8 o) (.bool is) (.own pre.length 0 row.length row.length) (iv row.length) (iv i) (i : Int) (pre ++ [.row 1 (((turnN c.vars o 0 row).take i ++ row.drop i).map (V.int .i64))]) c.vars.length 0 false (by omega)
    simp only [List.drop_zero, Int.cast_ofNat_Int, Bool.false_or] at k0
    have hg := turnN_get (vars := c.vars) (o := o) (i := 0) hlt
    rw [Nat.zero_add] at hg
    have hgx : (turnN c.vars o 0 row)[i] = _ := (List.getElem?_eq_some_iff.1 hg).2
    have hcur : (turnN c.vars o 0 row).take (i + 1) ++ row.drop (i + 1) = (turnN c.vars o 0 row).take i ++ (turnN c.vars o 0 row)[i] :: row.drop (i + 1) := by
      rw [← List.take_append_getElem hlt', List.append_assoc]; rfl
    have htl : ((turnN c.vars o 0 row).take i).length = i := by rw [List.length_take]; omega
    have wo : IntKind.i64.wrap o = o := wrap64 (by omega) (by omega)
    rw [hcur, hgx] at ih
    simp only [Int.natCast_add, Int.cast_ofNat_Int] at ih
    rw [r_law11_GroundOrder_1, ← ih, List.drop_eq_getElem_cons hlt] 
    rw [List.drop_eq_getElem_cons hlt] at k0
    obtain ⟨L, hL⟩ : ∃ L, L = (turnN c.vars o 0 row).take i := ⟨_, rfl⟩
    rw [← hL] at htl k0 ⊢
    obtain ⟨R, hR⟩ : ∃ R, R = row.drop (i + 1) := ⟨_, rfl⟩
    rw [← hR] at k0 ⊢
    have hlen : ((L ++ row[i] :: R).map (V.int .i64)).length = row.length := by
      rw [List.length_map, List.length_append, htl, List.length_cons, hR, List.length_drop]; omega
    have hset : ∀ y : Int, ((L ++ row[i] :: R).map (V.int .i64)).set i (iv y) = (L ++ y :: R).map (V.int .i64) := fun y => by
      rw [List.map_append, List.set_append_right _ _ (by simp [htl])]
      simp [htl]
    obtain ⟨cur, hcr⟩ : ∃ l, l = (L ++ row[i] :: R).map (V.int .i64) := ⟨_, rfl⟩
    rw [← hcr] at hlen hset k0 ⊢
    have hci : ∃ x : Int, cur[i]? = some (iv x) := ⟨row[i], by
      rw [hcr, List.map_append, List.getElem?_append_right (by simp [htl])]
      simp [htl]⟩
    obtain ⟨x0, hx0⟩ := hci
    have hx0' : ∀ h, cur[i]'h = iv x0 := fun h => (List.getElem?_eq_some_iff.1 hx0).2
    cases hb : (c.vars.any fun v => v == (i : Int)) with
    | true =>
      rw [hb] at k0
      have hsame : (L ++ row[i] :: R).map (V.int .i64) = cur := hcr.symm
      simp only [if_true, hsame]
      simp [b_law11_GroundOrder_1, hlt, hp0, hp1, k0, hw]
    | false =>
      rw [hb] at k0
      have hs := hset o
      simp only [Bool.false_eq_true, if_false, ← hs]
      simp [b_law11_GroundOrder_1, hlt, hp0, hp1, k0, hw, wo, hlen, hx0, hx0']
end Go.RR.M
set_option linter.unusedVariables false
set_option linter.unusedSimpArgs false
set_option maxRecDepth 100000
set_option maxHeartbeats 16000000
namespace Go.RR
@[simp] theorem at_one {xs : List V} : at? xs 1 = xs[1]? := rfl
@[simp] theorem at_two {xs : List V} : at? xs 2 = xs[2]? := rfl
end Go.RR
namespace Go.RR.M
open Go Go.RR
/-- what comes behind -/
theorem ord_tail (c : Con) (row : List Int) (hc : c150 c) (hr : row.length ≤ 150) (hne : row.map (V.int .i64) ≠ []) (hw : withinB 1048576 row = true) (hk : rightB c row.length = true) (o : Int) (ho : 0 ≤ o ∧ o ≤ 255) (is : Bool) (his : is = allB [c] row) (pre : List Ob) (hp : pre[0]? = some (.row 6 [conV c])) :
    (appV (pre.length + 1) (pre ++ [.row 1 []]) 1 8 (.own pre.length 0 0 0) (intsV row) = some (.own pre.length 0 row.length row.length, some (pre.length, .row 1 (row.map (V.int .i64))))) ∧
    ∃ fr' hf, (evw C i_law11_GroundOrder_l1 [(3, .int .u8 o), (4, .ptr 0 0 0 1), (9, .bool is), (15, .own pre.length 0 row.length row.length), (112, iv row.length), (113, iv 0)] (pre ++ [.row 1 (row.map (V.int .i64))]) = some (.ext 1, fr', hf)) ∧ get fr' 4 = .ptr 0 0 0 1 ∧ get fr' 9 = .bool is ∧ get fr' 15 = .own pre.length 0 row.length row.length ∧ hf[0]? = some (.row 6 [conV c]) ∧
      acw C n_ground_Holds [conV c, .own pre.length 0 row.length row.length] hf = some (.ret (.bool is), hf) := by
  refine ⟨appV_own (xs := []) (ys := row.map (V.int .i64)) (m := row.length) (by simp) rfl rfl hne (by simp) (by omega) (by omega), ?_⟩
  obtain ⟨fr', k, g4, g9, g15⟩ := turn_row c row hc.1 hr o ho is pre hp row.length 0 (by omega)
  simp only [List.take_zero, List.nil_append, List.drop_zero, Int.cast_ofNat_Int] at k
  refine ⟨fr', _, k, g4, g9, g15, get_some hp, ?_⟩
  have := gHolds_of c (turnN c.vars o 0 row) hc (by rw [turnN_len]; omega) (h := pre ++ [.row 1 ((turnN c.vars o 0 row).map (V.int .i64))]) (args := [conV c, .own pre.length 0 row.length row.length]) (frz_two_args rfl (frz_own_ints (by simp) (by rw [turnN_len]) 10))
  rw [turn_ok hw hk ho, ← his] at this
  exact this
theorem order (c : Con) (row : List Int) (cut o : Int) (hcut : 0 ≤ cut ∧ cut ≤ 255) (ho : 0 ≤ o ∧ o ≤ 255) (h : List Ob) : acw C n_law11_GroundOrder [conV c, intsV row, .int .u8 cut, .int .u8 o] h = some (.ret (.bool true), h) := by
  refine acw_ex (v := .bool true) (CT T_law11_GroundOrder) rfl rfl (fun _ => rfl) (by simp) ?_
  have k0 := awake
  have k1 := gLarge [c] row
  have k4 : bsfL (.agg [.int .i64 0, .nsl 1, .nsl 1, .int .i64 0, .int .i64 0, .nsl 1]) [conV c] = some (.sl 6 [conV c]) := rfl
  simp only [consV, List.map_cons, List.map_nil] at k1
  rcases Bool.eq_false_or_eq_true (gLargeB [c] row) with e | e <;> rw [e] at k1
  · simp [runW_fin, F_law11_GroundOrder, i_law11_GroundOrder, k0, k1, k4]
  obtain ⟨-, hrow, hc⟩ := gLarge_inv e
  have hc := hc c (by simp)
  have k2 := gRight [c] row (by simp) (by omega) (by simpa using hc)
  simp only [consV, List.map_cons, List.map_nil] at k2
  rcases Bool.eq_false_or_eq_true (gRightB [c] row) with eg | eg <;> rw [eg] at k2
  case inr => simp [runW_fin, F_law11_GroundOrder, i_law11_GroundOrder, k0, k1, k2, k4]
  have hwi : withinB 1048576 row = true := by
    unfold gRightB at eg; simp only [Bool.and_eq_true] at eg; exact eg.1
  obtain ⟨hsm, hrt⟩ := gRight_inv eg
  have hrt := hrt c (by simp)
  have K := kd hrt
  obtain ⟨⟨hv1, hv9⟩, hvr⟩ := K.vars
  have hpos : 0 < row.length := by
    rcases Nat.eq_zero_or_pos row.length with h0 | h0
    · exfalso
      have hv0 : 0 < c.vars.length := by omega
      have := hvr _ (List.getElem_mem hv0)
      omega
    · exact h0
  have hne : row.map (V.int .i64) ≠ [] := fun e => by
    have := congrArg List.length e
    rw [List.length_map, List.length_nil] at this
    omega
  have wcut : IntKind.i64.wrap cut = cut := wrap64 (by omega) (by omega)
  obtain ⟨is, his⟩ : ∃ is, is = allB [c] row := ⟨_, rfl⟩
  have kis := gHolds c row (by omega) hc
  rw [← his] at kis
  -- where nothing is turned
  have plain : c.kind ≠ 5 → c.kind ≠ 6 → c.kind ≠ 2 → ∃ h', runB (evw C) F_law11_GroundOrder [conV c, intsV row, .int .u8 cut, .int .u8 o] [] = some (.ret (.bool true), h') := by
    intro n5 n6 n2
    obtain ⟨ta, fr', hf, tl, g4, g9, g15, hf0, tk⟩ := ord_tail c row hc (by omega) hne hwi hrt o ho is his [.row 6 [conV c], .row 6 [conV c]] rfl
    simp only [List.length_cons, List.length_nil, List.cons_append, List.nil_append, Nat.zero_add, Nat.reduceAdd] at ta tl g15 tk
    have hf0' : ∀ h, hf[0]'h = .row 6 [conV c] := fun h => (List.getElem?_eq_some_iff.1 hf0).2
    cases is <;> simp [runW_fin, F_law11_GroundOrder, i_law11_GroundOrder, k0, k1, k2, k4, kis, n5, n6, n2, ieq, ine, ta, tl, g4, g9, g15, hf0, hf0', tk]
  cases K with
  | lin e hv hs => exact plain (by omega) (by omega) (by omega)
  | iff e hv hs => exact plain (by omega) (by omega) (by omega)
  | elt e hv hs => exact plain (by omega) (by omega) (by omega)
  | prod e hv hs =>
    have hv := varsB_inv hv
    obtain ⟨a, b, d, habd⟩ : ∃ a b d, c.vars = [a, b, d] := by
      have h3 : c.vars.length = 3 := by omega
      match hcv : c.vars, h3 with
      | [a, b, d], _ => exact ⟨a, b, d, rfl⟩
    have hd := pro_ok hwi hrt e a b d habd
    rw [← his] at hd
    have cD : c150 (proC c a b d) := ⟨by simp [proC], hc.2.1, hc.2.2⟩
    obtain ⟨ta, fr', hf, tl, g4, g9, g15, hf0, tk⟩ := ord_tail c row hc (by omega) hne hwi hrt o ho is his [.row 6 [conV c], .row 6 [.agg [iv 2, .own 2 0 3 3, intsV c.coefs, iv c.rel, iv c.const, intsV c.nums]], .row 1 [iv b, iv a, iv d]] rfl
    have kd := gHolds_of (proC c a b d) row cD (by omega) (h := [.row 6 [conV c], .row 6 [.agg [iv 2, .own 2 0 3 3, intsV c.coefs, iv c.rel, iv c.const, intsV c.nums]], .row 1 [iv b, iv a, iv d]]) (args := [.agg [iv 2, .own 2 0 3 3, intsV c.coefs, iv c.rel, iv c.const, intsV c.nums], intsV row]) (frz_two_args (by
      have := frz_con (h := [.row 6 [conV c], .row 6 [.agg [iv 2, .own 2 0 3 3, intsV c.coefs, iv c.rel, iv c.const, intsV c.nums]], .row 1 [iv b, iv a, iv d]]) (k := c.kind) (a := c.rel) (b := c.const) (x := .own 2 0 3 3) (y := intsV c.coefs) (z := intsV c.nums) (l := [b, a, d]) (m := c.coefs) (n := c.nums) (frz_own_ints (l := [b, a, d]) rfl rfl 9) rfl rfl
      rw [e] at this
      unfold proC
      rw [e]
      exact this) rfl)
    rw [hd] at kd
    simp only [List.length_cons, List.length_nil, List.cons_append, List.nil_append, Nat.zero_add, Nat.reduceAdd] at ta tl g15 tk
    have hf0' : ∀ h, hf[0]'h = .row 6 [conV c] := fun h => (List.getElem?_eq_some_iff.1 hf0).2
    obtain ⟨kind, vars, coefs, rel, const, nums⟩ := c
    dsimp only at *
    subst e
    have w0 : vars[0]? = some a := by rw [habd]; rfl
    have w1 : vars[1]? = some b := by rw [habd]; rfl
    have w2 : vars[2]? = some d := by rw [habd]; rfl
    have hl3 : vars.length = 3 := by rw [habd]; rfl
    have x0 : ∀ h, vars[0]'h = a := fun h => (List.getElem?_eq_some_iff.1 w0).2
    have x1 : ∀ h, vars[1]'h = b := fun h => (List.getElem?_eq_some_iff.1 w1).2
    have x2 : ∀ h, vars[2]'h = d := fun h => (List.getElem?_eq_some_iff.1 w2).2
    cases is <;> simp [runW_fin, F_law11_GroundOrder, i_law11_GroundOrder, k0, k1, k2, k4, kis, ieq, ine, hl3, w0, w1, w2, x0, x1, x2, kd, ta, tl, g4, g9, g15, hf0, hf0', tk]
  | dif e hv hs =>
    obtain ⟨k, hk⟩ : ∃ k, k = cut.toNat % c.vars.length := ⟨_, rfl⟩
    have hklt : k < c.vars.length := by rw [hk]; exact Nat.mod_lt _ (by omega)
    have ek : cut.tmod (c.vars.length : Int) = (k : Int) := by
      rw [Int.tmod_eq_emod_of_nonneg hcut.1, hk, Int.natCast_emod, Int.toNat_of_nonneg hcut.1]
    have hn0 : ¬ ((c.vars.length : Int) = 0) := by omega
    have hn0' : ¬ (c.vars.length = 0) := by omega
    have hvn : ¬ (c.vars = []) := fun e => by rw [e] at hv1; simp at hv1
    have wk : IntKind.i64.wrap (k : Int) = k := wrap64 (by omega) (by omega)
    have hkle : (k : Int) ≤ c.vars.length := by omega
    have hkle' : k ≤ c.vars.length := by omega
    have tkl : (c.vars.map (V.int .i64)).take c.vars.length = c.vars.map (V.int .i64) := List.take_of_length_le (by simp)
    have hd := dif_ok hwi hrt e k
    rw [← his] at hd
    have cD : c150 (difC c k) := ⟨by
      have : (difC c k).vars.length = c.vars.length := (rot_perm c.vars k).length_eq.symm
      rw [this]; exact hc.1, hc.2.1, hc.2.2⟩
    have kd : ∀ r2, r2 = Ob.row 1 ((c.vars.drop k ++ c.vars.take k).map (V.int .i64)) → acw C n_ground_Holds [.agg [iv 5, .own 2 0 c.vars.length c.vars.length, intsV c.coefs, iv c.rel, iv c.const, intsV c.nums], intsV row] [.row 6 [conV c], .row 6 [.agg [iv 5, .own 2 0 c.vars.length c.vars.length, intsV c.coefs, iv c.rel, iv c.const, intsV c.nums]], r2] = some (.ret (.bool is), [.row 6 [conV c], .row 6 [.agg [iv 5, .own 2 0 c.vars.length c.vars.length, intsV c.coefs, iv c.rel, iv c.const, intsV c.nums]], r2]) := by
      intro r2 h2
      have := gHolds_of (difC c k) row cD (by omega) (h := [.row 6 [conV c], .row 6 [.agg [iv 5, .own 2 0 c.vars.length c.vars.length, intsV c.coefs, iv c.rel, iv c.const, intsV c.nums]], r2]) (args := [.agg [iv 5, .own 2 0 c.vars.length c.vars.length, intsV c.coefs, iv c.rel, iv c.const, intsV c.nums], intsV row]) (frz_two_args (by
        have := frz_con (h := [.row 6 [conV c], .row 6 [.agg [iv 5, .own 2 0 c.vars.length c.vars.length, intsV c.coefs, iv c.rel, iv c.const, intsV c.nums]], r2]) (k := c.kind) (a := c.rel) (b := c.const) (x := .own 2 0 c.vars.length c.vars.length) (y := intsV c.coefs) (z := intsV c.nums) (l := c.vars.drop k ++ c.vars.take k) (m := c.coefs) (n := c.nums) (frz_own_ints (l := c.vars.drop k ++ c.vars.take k) (by rw [h2]; rfl) (rot_perm c.vars k).length_eq 9) rfl rfl
        rw [e] at this
        unfold difC
        rw [e]
        exact this) rfl)
      rw [hd] at this
      exact this
    obtain ⟨ta, fr', hf, tl, g4, g9, g15, hf0, tk⟩ := ord_tail c row hc (by omega) hne hwi hrt o ho is his [.row 6 [conV c], .row 6 [.agg [iv 5, .own 2 0 c.vars.length c.vars.length, intsV c.coefs, iv c.rel, iv c.const, intsV c.nums]], .row 1 ((c.vars.drop k ++ c.vars.take k).map (V.int .i64))] rfl
    simp only [List.length_cons, List.length_nil, List.cons_append, List.nil_append, Nat.zero_add, Nat.reduceAdd] at ta tl g15 tk
    have hf0' : ∀ h, hf[0]'h = .row 6 [conV c] := fun h => (List.getElem?_eq_some_iff.1 hf0).2
    have kd := kd _ rfl
    have a1 : appV 3 [.row 6 [conV c], .row 6 [conV c], .row 1 []] 1 8 (.own 2 0 0 0) (.sl 1 ((c.vars.map (V.int .i64)).drop k)) = some (.own 2 0 (c.vars.length - k) (c.vars.length - k), some (2, .row 1 ((c.vars.map (V.int .i64)).drop k))) :=
      appV_own (xs := []) (ys := (c.vars.map (V.int .i64)).drop k) (m := c.vars.length - k) rfl rfl rfl (fun e => by have := congrArg List.length e; simp at this; omega) (by simp) (by have := hc.1; omega) (by have := hc.1; omega)
    rcases Nat.eq_zero_or_pos k with hk0 | hk0
    · subst hk0
      have a2 : appV 3 [.row 6 [conV c], .row 6 [conV c], .row 1 (c.vars.map (V.int .i64))] 1 8 (.own 2 0 c.vars.length c.vars.length) (.sl 1 []) = some (.own 2 0 c.vars.length c.vars.length, none) := by
        unfold appV; simp [op1, src, elems, rowOf]
      simp only [List.drop_zero, Nat.sub_zero, List.take_zero, List.append_nil, Int.cast_ofNat_Int] at a1 kd ta tl tk ek
      obtain ⟨kind, vars, coefs, rel, const, nums⟩ := c
      dsimp only at *
      subst e
      cases is <;> simp [runW_fin, F_law11_GroundOrder, i_law11_GroundOrder, k0, k1, k2, k4, kis, ieq, ine, wcut, ek, hn0, hn0', hvn, tkl, a1, a2, kd, ta, tl, g4, g9, g15, hf0, hf0', tk]
    · have a2 : appV 3 [.row 6 [conV c], .row 6 [conV c], .row 1 ((c.vars.map (V.int .i64)).drop k)] 1 8 (.own 2 0 (c.vars.length - k) (c.vars.length - k)) (.sl 1 ((c.vars.map (V.int .i64)).take k)) = some (.own 2 0 c.vars.length c.vars.length, some (2, .row 1 ((c.vars.map (V.int .i64)).drop k ++ (c.vars.map (V.int .i64)).take k))) :=
        appV_own (xs := (c.vars.map (V.int .i64)).drop k) (ys := (c.vars.map (V.int .i64)).take k) (m := c.vars.length) rfl (by simp) rfl (fun e => by have := congrArg List.length e; simp at this; rcases this with h | h <;> simp_all) (by simp; omega) (by have := hc.1; omega) (by have := hc.1; omega)
      simp only [List.map_append, List.map_drop, List.map_take] at kd ta tl tk
      obtain ⟨kind, vars, coefs, rel, const, nums⟩ := c
      dsimp only at *
      subst e
      cases is <;> simp [runW_fin, F_law11_GroundOrder, i_law11_GroundOrder, k0, k1, k2, k4, kis, ieq, ine, wcut, ek, hn0, hn0', hvn, wk, hkle, hkle', tkl, a1, a2, kd, ta, tl, g4, g9, g15, hf0, hf0', tk]
  | tab e hv hs hm =>
    have hs := bareB_inv hs
    have hmod : c.nums.length % c.vars.length = 0 := by
      rw [Int.tmod_eq_emod_of_nonneg (by omega)] at hm
      omega
    obtain ⟨q, hq⟩ : ∃ q, q = c.nums.length / c.vars.length := ⟨_, rfl⟩
    have hdiv := Nat.div_add_mod c.nums.length c.vars.length
    rw [hmod, Nat.add_zero, ← hq, Nat.mul_comm] at hdiv
    have hn0 : ¬ ((c.vars.length : Int) = 0) := by omega
    have hn0' : ¬ (c.vars.length = 0) := by omega
    have hvn : ¬ (c.vars = []) := fun e => by rw [e] at hv1; simp at hv1
    have eq1 : (c.nums.length : Int).tdiv (c.vars.length : Int) = (q : Int) := by
      rw [Int.tdiv_eq_ediv_of_nonneg (by omega), hq, Int.natCast_ediv]
    have hqle : q ≤ c.nums.length := by rw [hq]; exact Nat.div_le_self _ _
    have wq : IntKind.i64.wrap (q : Int) = q := wrap64 (by omega) (by omega)
    have tkl : (c.nums.map (V.int .i64)).take c.nums.length = c.nums.map (V.int .i64) := List.take_of_length_le (by simp)
    have main : ∀ m, m ≤ q → (∀ r2, r2 = Ob.row 1 ((c.nums.drop (m * c.vars.length) ++ c.nums.take (m * c.vars.length)).map (V.int .i64)) → acw C n_ground_Holds [.agg [iv 6, intsV c.vars, intsV c.coefs, iv c.rel, iv c.const, .own 2 0 c.nums.length c.nums.length], intsV row] [.row 6 [conV c], .row 6 [.agg [iv 6, intsV c.vars, intsV c.coefs, iv c.rel, iv c.const, .own 2 0 c.nums.length c.nums.length]], r2] = some (.ret (.bool is), [.row 6 [conV c], .row 6 [.agg [iv 6, intsV c.vars, intsV c.coefs, iv c.rel, iv c.const, .own 2 0 c.nums.length c.nums.length]], r2])) := by
      intro m hmq r2 h2
      have hd := tab_ok hwi hrt e m (by rw [← hq]; exact hmq)
      rw [← his] at hd
      have cD : c150 (tabC c (m * c.vars.length)) := ⟨hc.1, hc.2.1, by
        have : (tabC c (m * c.vars.length)).nums.length = c.nums.length := (rot_perm c.nums _).length_eq.symm
        rw [this]; exact hc.2.2⟩
      have := gHolds_of (tabC c (m * c.vars.length)) row cD (by omega) (h := [.row 6 [conV c], .row 6 [.agg [iv 6, intsV c.vars, intsV c.coefs, iv c.rel, iv c.const, .own 2 0 c.nums.length c.nums.length]], r2]) (args := [.agg [iv 6, intsV c.vars, intsV c.coefs, iv c.rel, iv c.const, .own 2 0 c.nums.length c.nums.length], intsV row]) (frz_two_args (by
        have := frz_con (h := [.row 6 [conV c], .row 6 [.agg [iv 6, intsV c.vars, intsV c.coefs, iv c.rel, iv c.const, .own 2 0 c.nums.length c.nums.length]], r2]) (k := c.kind) (a := c.rel) (b := c.const) (x := intsV c.vars) (y := intsV c.coefs) (z := .own 2 0 c.nums.length c.nums.length) (l := c.vars) (m := c.coefs) (n := c.nums.drop (m * c.vars.length) ++ c.nums.take (m * c.vars.length)) rfl rfl (frz_own_ints (l := c.nums.drop (m * c.vars.length) ++ c.nums.take (m * c.vars.length)) (by rw [h2]; rfl) (rot_perm c.nums _).length_eq 9)
        rw [e] at this
        unfold tabC
        rw [e]
        exact this) rfl)
      rw [hd] at this
      exact this
    have tail := fun k : Nat => ord_tail c row hc (by omega) hne hwi hrt o ho is his [.row 6 [conV c], .row 6 [.agg [iv 6, intsV c.vars, intsV c.coefs, iv c.rel, iv c.const, .own 2 0 c.nums.length c.nums.length]], .row 1 ((c.nums.drop k ++ c.nums.take k).map (V.int .i64))] rfl
    rcases Nat.eq_zero_or_pos q with hq0 | hq0
    · subst hq0
      have hnil : c.nums = [] := List.eq_nil_of_length_eq_zero (by omega)
      have kd := main 0 (by omega) _ rfl
      obtain ⟨ta, fr', hf, tl, g4, g9, g15, hf0, tk⟩ := tail 0
      simp only [List.length_cons, List.length_nil, List.cons_append, List.nil_append, Nat.zero_add, Nat.reduceAdd] at ta tl g15 tk
      have hf0' : ∀ h, hf[0]'h = .row 6 [conV c] := fun h => (List.getElem?_eq_some_iff.1 hf0).2
      have a2 : appV 3 [.row 6 [conV c], .row 6 [conV c], .row 1 []] 1 8 (.own 2 0 0 0) (.sl 1 []) = some (.own 2 0 0 0, none) := by
        unfold appV; simp [op1, src, elems, rowOf]
      obtain ⟨kind, vars, coefs, rel, const, nums⟩ := c
      dsimp only at *
      subst e hnil
      simp only [Nat.zero_mul, List.drop_zero, List.take_zero, List.append_nil, List.map_nil, List.length_nil, Int.cast_ofNat_Int] at kd ta tl tk eq1 wq a2
      simp only [conV, intsV, List.map_nil] at *
      cases is <;> simp [runW_fin, F_law11_GroundOrder, i_law11_GroundOrder, k0, k1, k2, k4, kis, ieq, ine, hn0, hn0', hvn, eq1, a2, kd, ta, tl, g4, g9, g15, hf0, hf0', tk]
    · obtain ⟨m, hmk⟩ : ∃ m, m = cut.toNat % q := ⟨_, rfl⟩
      have hmlt : m < q := by rw [hmk]; exact Nat.mod_lt _ hq0
      have em : cut.tmod (q : Int) = (m : Int) := by
        rw [Int.tmod_eq_emod_of_nonneg hcut.1, hmk, Int.natCast_emod, Int.toNat_of_nonneg hcut.1]
      have hq1 : ¬ ((q : Int) = 0) := by omega
      have hq1' : ¬ (q = 0) := by omega
      have wm : IntKind.i64.wrap (m : Int) = m := wrap64 (by omega) (by omega)
      have hmn : m * c.vars.length < c.nums.length := by
        have : (m + 1) * c.vars.length ≤ q * c.vars.length := Nat.mul_le_mul_right _ hmlt
        rw [Nat.add_mul, Nat.one_mul] at this
        omega
      obtain ⟨k, hk⟩ : ∃ k, k = m * c.vars.length := ⟨_, rfl⟩
      have ekk : (m : Int) * (c.vars.length : Int) = (k : Int) := by rw [hk]; exact (Int.natCast_mul m c.vars.length).symm
      rw [← hk] at hmn
      have wk : IntKind.i64.wrap (k : Int) = k := wrap64 (by omega) (by have := hc.2.2; omega)
      have hkle : (k : Int) ≤ c.nums.length := by omega
      have hkle' : k ≤ c.nums.length := by omega
      have kd := main m (by omega) _ rfl
      rw [← hk] at kd
      obtain ⟨ta, fr', hf, tl, g4, g9, g15, hf0, tk⟩ := tail k
      simp only [List.length_cons, List.length_nil, List.cons_append, List.nil_append, Nat.zero_add, Nat.reduceAdd] at ta tl g15 tk
      have hf0' : ∀ h, hf[0]'h = .row 6 [conV c] := fun h => (List.getElem?_eq_some_iff.1 hf0).2
      have a1 : appV 3 [.row 6 [conV c], .row 6 [conV c], .row 1 []] 1 8 (.own 2 0 0 0) (.sl 1 ((c.nums.map (V.int .i64)).drop k)) = some (.own 2 0 (c.nums.length - k) (c.nums.length - k), some (2, .row 1 ((c.nums.map (V.int .i64)).drop k))) :=
        appV_own (xs := []) (ys := (c.nums.map (V.int .i64)).drop k) (m := c.nums.length - k) rfl rfl rfl (fun e => by have := congrArg List.length e; simp at this; omega) (by simp) (by have := hc.2.2; omega) (by have := hc.2.2; omega)
      rcases Nat.eq_zero_or_pos k with hk0 | hk0
      · subst hk0
        have a2 : appV 3 [.row 6 [conV c], .row 6 [conV c], .row 1 (c.nums.map (V.int .i64))] 1 8 (.own 2 0 c.nums.length c.nums.length) (.sl 1 []) = some (.own 2 0 c.nums.length c.nums.length, none) := by
          unfold appV; simp [op1, src, elems, rowOf]
        simp only [List.drop_zero, Nat.sub_zero, List.take_zero, List.append_nil, Int.cast_ofNat_Int] at a1 kd ta tl tk ekk
        obtain ⟨kind, vars, coefs, rel, const, nums⟩ := c
        dsimp only at *
        subst e
        cases is <;> simp [runW_fin, F_law11_GroundOrder, i_law11_GroundOrder, k0, k1, k2, k4, kis, ieq, ine, wcut, hn0, hn0', hvn, eq1, wq, hq0, hq1, hq1', em, wm, ekk, tkl, a1, a2, kd, ta, tl, g4, g9, g15, hf0, hf0', tk]
      · have a2 : appV 3 [.row 6 [conV c], .row 6 [conV c], .row 1 ((c.nums.map (V.int .i64)).drop k)] 1 8 (.own 2 0 (c.nums.length - k) (c.nums.length - k)) (.sl 1 ((c.nums.map (V.int .i64)).take k)) = some (.own 2 0 c.nums.length c.nums.length, some (2, .row 1 ((c.nums.map (V.int .i64)).drop k ++ (c.nums.map (V.int .i64)).take k))) :=
          appV_own (xs := (c.nums.map (V.int .i64)).drop k) (ys := (c.nums.map (V.int .i64)).take k) (m := c.nums.length) rfl (by simp) rfl (fun e => by have := congrArg List.length e; rw [List.length_take, List.length_map, List.length_nil] at this; omega) (by simp; omega) (by have := hc.2.2; omega) (by have := hc.2.2; omega)
        simp only [List.map_append, List.map_drop, List.map_take] at kd ta tl tk
        obtain ⟨kind, vars, coefs, rel, const, nums⟩ := c
        dsimp only at *
        subst e
        cases is <;> simp [runW_fin, F_law11_GroundOrder, i_law11_GroundOrder, k0, k1, k2, k4, kis, ieq, ine, wcut, hn0, hn0', hvn, eq1, wq, hq0, hq1, hq1', em, wm, ekk, wk, hkle, hkle', tkl, a1, a2, kd, ta, tl, g4, g9, g15, hf0, hf0', tk]
end Go.RR.M
