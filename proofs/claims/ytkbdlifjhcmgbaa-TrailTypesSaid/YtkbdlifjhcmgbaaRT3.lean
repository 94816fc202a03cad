/- TrailBack: two trails; the acts ahead of the mark, and behind it. -/
import Derived.Test.YtkbdlifjhcmgbaaRT2
set_option linter.unusedVariables false
set_option linter.unusedSimpArgs false
set_option linter.unusedVariables false
set_option linter.unusedSimpArgs false
set_option maxRecDepth 100000
set_option maxHeartbeats 16000000
namespace Go.RR.TK
open Go Go.RR Go.RR.M Go.RR.TI Go.RR.TD
structure B2 (h : List Ob) (tid uid : Nat) (F G : List Nat) (st su : St) : Prop where
  t : TR h tid F st.C st.S st.Os
  u : TR h uid G su.C su.S su.Os
  d : ∀ j ∈ F, j ∉ G
theorem B2.more {h l : List Ob} {tid uid : Nat} {F G : List Nat} {st su : St} (b : B2 h tid uid F G st su) : B2 (h ++ l) tid uid F G st su :=
  ⟨b.t.keep fun j hj => get_lt (b.t.lt j hj), b.u.keep fun j hj => get_lt (b.u.lt j hj), b.d⟩
theorem B2.swap {h : List Ob} {tid uid : Nat} {F G : List Nat} {st su : St} (b : B2 h tid uid F G st su) : B2 h uid tid G F su st := ⟨b.u, b.t, fun j hj hf => b.d j hf hj⟩
/-- what changes one of two -/
theorem B2.mv {n : Nat} {h h' : List Ob} {tid uid : Nat} {F F' G : List Nat} {st st' su : St} (b : B2 h tid uid F G st su) (m : Mv n h h' F F') (t : TR h' tid F' st'.C st'.S st'.Os) : B2 h' tid uid F' G st' su := by
  refine ⟨t, b.u.keep fun j hj => m.k j (b.u.lt j hj) fun q => b.d j q hj, fun j hj hg => ?_⟩
  rcases m.f j hj with q | q
  · exact b.d j q hg
  · have := b.u.lt j hg; omega
theorem doB {h : List Ob} {tid uid : Nat} {F G : List Nat} {st su : St} (b : B2 h tid uid F G st su) {k : Nat} (bd : Bd k st) (hk : k ≤ 99999) (d i x : Int) :
    ∃ h' F', acw M.C n_law05_do [.ptr tid 0 0 1, .agg [iv d, iv i, iv x]] h = some (.ret (.tup [iv (act st d i x).1.1, iv (act st d i x).1.2]), h') ∧ B2 h' tid uid F' G (act st d i x).2 su ∧ Mv 4 h h' F F' := by
  obtain ⟨h', F', e, t, m⟩ := doT b.t bd hk d i x
  exact ⟨h', F', e, b.mv m t, m⟩
/-- acts, one after the other -/
def acts (st : St) (l : List Ac) : St := l.foldl (fun s a => (act s a.d a.i a.x).2) st
theorem step0 {h : List Ob} {tid uid : Nat} {F G : List Nat} {st : St} (b : B2 h tid uid F G st st) {k : Nat} (bd : Bd k st) (hk : k ≤ 9999) (l : List Ac) (i : Nat) (hi : i < l.length) (hl2 : l.length ≤ 150) (v0 v2 : V) :
    ∃ h' F' G', evw M.C y0 b_law05_TrailBack_0 [(0, v0), (2, v2), (7, .ptr tid 0 0 1), (9, .ptr uid 0 0 1), (57, acsV l), (58, iv l.length), (59, iv i)] h = some (.nrm, [(0, v0), (2, v2), (7, .ptr tid 0 0 1), (9, .ptr uid 0 0 1), (57, acsV l), (58, iv l.length), (59, iv ((i : Int) + 1))], h') ∧
      B2 h' tid uid F' G' (act st l[i].d l[i].i l[i].x).2 (act st l[i].d l[i].i l[i].x).2 := by
  obtain ⟨a, ha⟩ : ∃ a, a = l[i] := ⟨_, rfl⟩
  have h3 : l[i]? = some a := by simp [hi, ha]
  have h4 : ∀ h : i < l.length, l[i]'h = a := fun _ => ha.symm
  rw [h4]
  obtain ⟨d, ix, x⟩ := a
  simp only
  obtain ⟨h1, hh1⟩ : ∃ h1, h1 = h ++ [Ob.row 3 [.agg [iv d, iv ix, iv x]]] := ⟨_, rfl⟩
  have b1 : B2 h1 tid uid F G st st := by rw [hh1]; exact b.more
  obtain ⟨h2, F2, e2, b2, m2⟩ := doB b1 bd (by omega) d ix x
  obtain ⟨h3', G3, e3, b3, m3⟩ := doB b2.swap bd (by omega) d ix x
  have x1 : h1[h.length]? = some (Ob.row 3 [.agg [iv d, iv ix, iv x]]) := by rw [hh1]; simp
  have x2 : h2[h.length]? = some (Ob.row 3 [.agg [iv d, iv ix, iv x]]) := by
    rw [m2.k _ (by rw [hh1]; simp) fun q => by have := b.t.lt _ q; omega]
    exact x1
  have hw : IntKind.i64.wrap ((i : Int) + 1) = (i : Int) + 1 := wrap64 (by omega) (by omega)
  have hi4 : (i : Int) < l.length := by omega
  have f1 : acsV l = .sl 3 (l.map acV) := rfl
  have f2 : acV ⟨d, ix, x⟩ = .agg [iv d, iv ix, iv x] := rfl
  refine ⟨h3', F2, G3, ?_, b3.swap⟩
  rw [hh1] at e2 
  simp [b_law05_TrailBack_0, f1, f2, hi, hi4, h3, h4, e2, x2, e3, hw]
theorem loop0 (l : List Ac) (hl2 : l.length ≤ 150) (v0 v2 : V) (tid uid : Nat) :
    ∀ (d i : Nat) (h : List Ob) (F G : List Nat) (st : St), i + d = l.length → B2 h tid uid F G st st → Bd i st →
      ∃ h' F' G' st', evw M.C y0 i_law05_TrailBack_l0 [(0, v0), (2, v2), (7, .ptr tid 0 0 1), (9, .ptr uid 0 0 1), (57, acsV l), (58, iv l.length), (59, iv i)] h = some (.ext 0, [(0, v0), (2, v2), (7, .ptr tid 0 0 1), (9, .ptr uid 0 0 1), (57, acsV l), (58, iv l.length), (59, iv l.length), (60, .bool false)], h') ∧
        B2 h' tid uid F' G' st' st' ∧ Bd 150 st' ∧ st'.C.length = st.C.length := by
  intro d
  induction d with
  | zero =>
    intro i h F G st hi b bd
    have : i = l.length := by omega
    subst this
    refine ⟨h, F, G, st, ?_, b, bd.mono hl2, rfl⟩
    rw [r_law05_TrailBack_0]
    simp [b_law05_TrailBack_0]
  | succ d ih =>
    intro i h F G st hi b bd
    obtain ⟨h1, F1, G1, e1, b1⟩ := step0 b bd (by omega) l i (by omega) hl2 v0 v2
    obtain ⟨h2, F2, G2, st2, e2, b2, bd2, hC2⟩ := ih (i + 1) h1 F1 G1 _ (by omega) b1 (bd.act _ _ _)
    refine ⟨h2, F2, G2, st2, ?_, b2, bd2, by rw [hC2]; exact act_len b.t.lens.2.1⟩
    rw [r_law05_TrailBack_0, e1]
    simp only [Int.natCast_add, Int.cast_ofNat_Int] at e2
    exact e2
/-- no stamp has fallen -/
def Up (S S' : List Int) : Prop := ∀ j : Nat, S.getD j 0 ≤ S'.getD j 0
theorem Up.refl {S : List Int} : Up S S := fun _ => Int.le_refl _
theorem Up.trans {A B C : List Int} (a : Up A B) (b : Up B C) : Up A C := fun j => Int.le_trans (a j) (b j)
theorem up_put {C S : List Int} {i : Nat} {x : Int} : Up S (putS C S i x) := fun j => by
  unfold putS
  split
  · exact Int.le_refl _
  · by_cases q : j = i
    · subst q
      by_cases hj : j < S.length
      · simp only [List.getD_eq_getElem?_getD, List.getElem?_set_self hj, Option.getD_some]; omega
      · simp only [List.getD_eq_getElem?_getD]
        rw [List.getElem?_eq_none (by omega), List.getElem?_eq_none (by simp; omega)]
        exact Int.le_refl _
    · simp only [List.getD_eq_getElem?_getD, List.getElem?_set_ne (Ne.symm q)]
      exact Int.le_refl _
theorem up_bump {C B S : List Int} : Up S (bump C B S) := fun j => by
  simp only [List.getD_eq_getElem?_getD, bump_get]
  cases S[j]? with
  | none => simp
  | some s => simp; split <;> omega
theorem up_act {st : St} {d i x : Int} : Up st.S (act st d i x).2.S := by
  unfold act
  split
  · split
    · exact up_put
    · exact Up.refl
  · split
    · exact Up.refl
    · split
      · split
        · exact up_bump
        · exact Up.refl
      · exact Up.refl
/-- behind a mark: what it had stays -/
def Mk (C0 : List Int) (Os0 : List (List Int)) (st : St) : Prop := ∃ X, st.Os = X ++ C0 :: Os0
theorem Mk.act {C0 : List Int} {Os0 : List (List Int)} {st : St} (m : Mk C0 Os0 st) (d i x : Int) (h : d = 2 → Os0.length + 1 < st.Os.length) : Mk C0 Os0 (act st d i x).2 := by
  obtain ⟨X, e⟩ := m
  unfold TI.act
  split
  · split
    · exact ⟨X, e⟩
    · exact ⟨X, e⟩
  · split
    · exact ⟨st.C :: X, by simp [e]⟩
    · split
      · rename_i hd
        have hl := h hd
        rw [e] at hl
        match X, e, hl with
        | [], e, hl => simp at hl
        | [B], e, hl => rw [e]; exact ⟨[], rfl⟩
        | B :: A :: X, e, hl => rw [e]; exact ⟨A :: X, rfl⟩
      · exact ⟨X, e⟩
end Go.RR.TK
set_option linter.unusedVariables false
set_option linter.unusedSimpArgs false
set_option maxRecDepth 100000
set_option maxHeartbeats 16000000
namespace Go.RR.TK
open Go Go.RR Go.RR.M Go.RR.TI Go.RR.TD
theorem step1 {h : List Ob} {tid uid : Nat} {F G : List Nat} {st su : St} {C0 : List Int} {Os0 : List (List Int)} (b : B2 h tid uid F G st su) {k : Nat} (bd : Bd k st) (hk : k ≤ 9999) (mk : Mk C0 Os0 st) (hM : Os0.length ≤ 9999) (l : List Ac) (i : Nat) (hi : i < l.length) (hl2 : l.length ≤ 150) (v0 : V) :
    ∃ h' F' st', evw M.C y0 b_law05_TrailBack_1 [(0, v0), (7, .ptr tid 0 0 1), (9, .ptr uid 0 0 1), (13, iv Os0.length), (72, acsV l), (73, iv l.length), (74, iv i)] h = some (.nrm, [(0, v0), (7, .ptr tid 0 0 1), (9, .ptr uid 0 0 1), (13, iv Os0.length), (72, acsV l), (73, iv l.length), (74, iv ((i : Int) + 1))], h') ∧
      B2 h' tid uid F' G st' su ∧ Bd (k + 1) st' ∧ Mk C0 Os0 st' ∧ Up st.S st'.S ∧ st'.C.length = st.C.length := by
  obtain ⟨a, ha⟩ : ∃ a, a = l[i] := ⟨_, rfl⟩
  have h3 : l[i]? = some a := by simp [hi, ha]
  have h4 : ∀ h : i < l.length, l[i]'h = a := fun _ => ha.symm
  obtain ⟨d, ix, x⟩ := a
  obtain ⟨h1, hh1⟩ : ∃ h1, h1 = h ++ [Ob.row 3 [.agg [iv d, iv ix, iv x]]] := ⟨_, rfl⟩
  have b1 : B2 h1 tid uid F G st su := by rw [hh1]; exact b.more
  have x1 : h1[h.length]? = some (Ob.row 3 [.agg [iv d, iv ix, iv x]]) := by rw [hh1]; simp
  have hO := bd.o
  have km := b1.t.marks (by omega)
  have hw : IntKind.i64.wrap ((i : Int) + 1) = (i : Int) + 1 := wrap64 (by omega) (by omega)
  have hi4 : (i : Int) < l.length := by omega
  have f1 : acsV l = .sl 3 (l.map acV) := rfl
  have f2 : acV ⟨d, ix, x⟩ = .agg [iv d, iv ix, iv x] := rfl
  by_cases c : d = 2 ∧ st.Os.length ≤ Os0.length + 1
  · obtain ⟨rfl, c2⟩ := c
    refine ⟨h1, F, st, ?_, b1, bd.mono (by omega), mk, Up.refl, rfl⟩
    have c3 : (st.Os.length : Int) - 1 ≤ Os0.length := by omega
    rw [hh1] at km ⊢
    simp [b_law05_TrailBack_1, f1, f2, hi, hi4, h3, h4, km, c3, hw]
  · obtain ⟨h2, F2, e2, b2, m2⟩ := doB b1 bd (by omega) d ix x
    refine ⟨h2, F2, _, ?_, b2, bd.act d ix x, mk.act d ix x (fun q => by omega), up_act, act_len b.t.lens.2.1⟩
    rw [hh1] at km e2
    by_cases c0 : d = 2
    · subst c0
      have c3 : ¬ ((st.Os.length : Int) - 1 ≤ Os0.length) := by omega
      simp [b_law05_TrailBack_1, f1, f2, hi, hi4, h3, h4, km, c3, hw, e2]
    · have d2 : (d == 2) = false := by simpa using c0
      simp [b_law05_TrailBack_1, f1, f2, hi, hi4, h3, h4, km, d2, hw, e2]
theorem loop1 (l : List Ac) (hl2 : l.length ≤ 150) (v0 : V) (tid uid : Nat) (su : St) (C0 : List Int) (Os0 : List (List Int)) (hM : Os0.length ≤ 9999) (G : List Nat) :
    ∀ (d i : Nat) (h : List Ob) (F : List Nat) (st : St), i + d = l.length → B2 h tid uid F G st su → Bd (151 + i) st → Mk C0 Os0 st →
      ∃ h' F' st', evw M.C y0 i_law05_TrailBack_l1 [(0, v0), (7, .ptr tid 0 0 1), (9, .ptr uid 0 0 1), (13, iv Os0.length), (72, acsV l), (73, iv l.length), (74, iv i)] h = some (.ext 2, [(0, v0), (7, .ptr tid 0 0 1), (9, .ptr uid 0 0 1), (13, iv Os0.length), (72, acsV l), (73, iv l.length), (74, iv l.length), (75, .bool false)], h') ∧
        B2 h' tid uid F' G st' su ∧ Bd 301 st' ∧ Mk C0 Os0 st' ∧ Up st.S st'.S ∧ st'.C.length = st.C.length := by
  intro d
  induction d with
  | zero =>
    intro i h F st hi b bd mk
    have : i = l.length := by omega
    subst this
    refine ⟨h, F, st, ?_, b, bd.mono (by omega), mk, Up.refl, rfl⟩
    rw [r_law05_TrailBack_1]
    simp [b_law05_TrailBack_1]
  | succ d ih =>
    intro i h F st hi b bd mk
    obtain ⟨h1, F1, st1, e1, b1, bd1, mk1, up1, l1⟩ := step1 b bd (by omega) mk hM l i (by omega) hl2 v0
    obtain ⟨h2, F2, st2, e2, b2, bd2, mk2, up2, l2⟩ := ih (i + 1) h1 F1 st1 (by omega) b1 bd1 mk1
    refine ⟨h2, F2, st2, ?_, b2, bd2, mk2, up1.trans up2, by rw [l2, l1]⟩
    rw [r_law05_TrailBack_1, e1]
    simp only [Int.natCast_add, Int.cast_ofNat_Int] at e2
    exact e2
theorem loop2 (v0 : V) (tid uid : Nat) (su : St) (C0 A0 : List Int) (r0 : List (List Int)) (hM : r0.length ≤ 9990) (G : List Nat) :
    ∀ (n : Nat) (X : List (List Int)) (fr : Fr) (h : List Ob) (F : List Nat) (st : St) (k : Nat), X.length = n → get fr 0 = v0 → get fr 7 = .ptr tid 0 0 1 → get fr 9 = .ptr uid 0 0 1 → get fr 13 = iv ((r0.length : Int) + 1) → B2 h tid uid F G st su → Bd k st → k + n ≤ 99990 → st.Os = X ++ C0 :: A0 :: r0 →
      ∃ h' F' S', evw M.C y0 i_law05_TrailBack_l2 fr h = some (.ext 4, [(0, v0), (7, .ptr tid 0 0 1), (9, .ptr uid 0 0 1), (13, iv ((r0.length : Int) + 1)), (94, .bool false)], h') ∧
        B2 h' tid uid F' G ⟨C0, S', A0 :: r0⟩ su ∧ Up st.S S' := by
  intro n
  induction n with
  | zero =>
    intro X fr h F st k hX f0 f7 f9 f13 b bd hk hos
    have : X = [] := List.length_eq_zero_iff.1 hX
    subst this
    have hO := bd.o
    obtain ⟨C, S, Os⟩ := st
    simp only [List.nil_append] at hos
    subst hos
    simp only [List.length_cons] at hO
    have km := b.t.marks (by simp; omega)
    obtain ⟨h1, F1, e1, t1, m1⟩ := undoT b.t (fun s hs => by have := bd.s s hs; omega) (by omega)
    have b1 : B2 h1 tid uid F1 G ⟨C0, bump C C0 S, A0 :: r0⟩ su := b.mv m1 t1
    have km1 := b1.t.marks (by simp; omega)
    have q1 : (((C0 :: A0 :: r0).length : Nat) : Int) - 1 = (r0.length : Int) + 1 := by simp
    have q2 : (((A0 :: r0).length : Nat) : Int) - 1 = (r0.length : Int) := by simp
    simp only at km km1
    rw [q1] at km
    rw [q2] at km1
    have c1 : ¬ ((r0.length : Int) + 1 ≤ r0.length) := by omega
    refine ⟨h1, F1, _, ?_, b1, up_bump⟩
    rw [r_law05_TrailBack_2]
    simp only [b_law05_TrailBack_2]
    simp [f0, f7, f9, f13, km, e1]
    rw [r_law05_TrailBack_2]
    simp [b_law05_TrailBack_2, km1, c1]
  | succ n ih =>
    intro X fr h F st k hX f0 f7 f9 f13 b bd hk hos
    match X, hX with
    | B :: X, hX =>
    have hX : X.length = n := by simpa using hX
    have hO := bd.o
    obtain ⟨C, S, Os⟩ := st
    simp only [List.cons_append] at hos
    subst hos
    simp only [List.length_cons, List.length_append] at hO
    have km := b.t.marks (by simp; omega)
    obtain ⟨A1, R1, hA1⟩ : ∃ A1 R1, X ++ C0 :: A0 :: r0 = A1 :: R1 := by
      cases X with
      | nil => exact ⟨_, _, rfl⟩
      | cons y Y => exact ⟨_, _, rfl⟩
    have hR1 : R1.length + 1 = X.length + 2 + r0.length := by
      have := congrArg List.length hA1
      simp at this
      omega
    have bt := b.t
    simp only [hA1] at bt km
    obtain ⟨h1, F1, e1, t1, m1⟩ := undoT bt (fun s hs => by have := bd.s s hs; omega) (by omega)
    have b1 : B2 h1 tid uid F1 G ⟨B, bump C B S, X ++ C0 :: A0 :: r0⟩ su := b.mv m1 (by simp only [hA1]; exact t1)
    have bd1 : Bd (k + 1) ⟨B, bump C B S, X ++ C0 :: A0 :: r0⟩ := by
      have := bd.act 2 0 0
      unfold act at this
      simp only [hA1] at this
      simpa [hA1] using this
    have q1 : (((B :: A1 :: R1).length : Nat) : Int) - 1 = (R1.length : Int) + 1 := by simp
    rw [q1] at km
    have c1 : (r0.length : Int) + 1 ≤ (R1.length : Int) + 1 := by omega
    have c2 : r0.length ≤ R1.length := by omega
    obtain ⟨h2, F2, S2, e2, b2, up2⟩ := ih X [(0, v0), (7, .ptr tid 0 0 1), (9, .ptr uid 0 0 1), (13, iv ((r0.length : Int) + 1)), (97, .bool false)] h1 F1 _ (k + 1) hX rfl rfl rfl rfl b1 bd1 (by omega) rfl
    refine ⟨h2, F2, S2, ?_, b2, up_bump.trans up2⟩
    rw [r_law05_TrailBack_2]
    simp only [b_law05_TrailBack_2]
    simp [f0, f7, f9, f13, km, c1, c2, e1]
    exact e2
end Go.RR.TK
set_option linter.unusedVariables false
set_option linter.unusedSimpArgs false
set_option maxRecDepth 100000
set_option maxHeartbeats 16000000
namespace Go.RR.TK
open Go Go.RR Go.RR.M Go.RR.TI Go.RR.TD
theorem loop3 {h : List Ob} {tid uid : Nat} {F G : List Nat} {C S S' : List Int} {Os : List (List Int)} (b : B2 h tid uid F G ⟨C, S', Os⟩ ⟨C, S, Os⟩) (up : Up S S') (hC : C.length ≤ 40) :
    ∀ (d i : Nat), i + d = C.length → evw M.C y0 i_law05_TrailBack_l3 [(7, .ptr tid 0 0 1), (9, .ptr uid 0 0 1), (112, iv C.length), (113, iv i)] h =
      some (.ext 6, [(7, .ptr tid 0 0 1), (9, .ptr uid 0 0 1), (112, iv C.length), (113, iv C.length), (114, .bool false)], h) := by
  intro d
  induction d with
  | zero =>
    intro i hi
    have hiC : i = C.length := by omega
    subst hiC
    rw [r_law05_TrailBack_3]
    simp [b_law05_TrailBack_3]
  | succ d ih =>
    intro i hi
    have hiC : i < C.length := by omega
    have ih := ih (i + 1) (by omega)
    simp only [Int.natCast_add, Int.cast_ofNat_Int] at ih
    have hw : IntKind.i64.wrap ((i : Int) + 1) = (i : Int) + 1 := wrap64 (by omega) (by omega)
    have hi4 : (i : Int) < C.length := by omega
    have kg := b.t.get1 i hiC
    have ks := b.t.stamp1 i hiC
    have ug := b.u.get1 i hiC
    have us := b.u.stamp1 i hiC
    obtain ⟨y, hy⟩ : ∃ y, y = C[i] := ⟨_, rfl⟩
    have h4 : ∀ h : i < C.length, C[i]'h = y := fun _ => hy.symm
    rw [h4] at kg ug
    simp only at ks us
    have c : ¬ (S'.getD i 0 < S.getD i 0) := by have := up i; omega
    obtain ⟨s1, hs1⟩ : ∃ s, s = S'.getD i 0 := ⟨_, rfl⟩
    obtain ⟨s2, hs2⟩ : ∃ s, s = S.getD i 0 := ⟨_, rfl⟩
    rw [← hs1] at ks c
    rw [← hs2] at us c
    rw [r_law05_TrailBack_3, ← ih]
    simp [b_law05_TrailBack_3, hi4, kg, ks, ug, us, c, hw, ine]
theorem back (n : Int) (l bt : List Ac) (hn : 0 ≤ n ∧ n ≤ 255) (h : List Ob) : acw M.C n_law05_TrailBack [.int .u8 n, acsV l, acsV bt] h = some (.ret (.bool true), h) := by
  refine acw_ex (v := .bool true) (CT T_law05_TrailBack) rfl rfl (fun _ => rfl) (by simp) ?_
  have k0 := awake []
  by_cases c1 : 40 < n
  · exact ⟨[], by simp [runW_fin, F_law05_TrailBack, i_law05_TrailBack, k0, c1]⟩
  by_cases c2 : 150 < l.length
  · have c2' : (150 : Int) < l.length := by omega
    exact ⟨[], by simp [runW_fin, F_law05_TrailBack, i_law05_TrailBack, k0, c1, acsV, c2, c2']⟩
  have c2' : ¬ (150 : Int) < l.length := by omega
  by_cases c3 : 150 < bt.length
  · have c3' : (150 : Int) < bt.length := by omega
    exact ⟨[], by simp [runW_fin, F_law05_TrailBack, i_law05_TrailBack, k0, c1, acsV, c2, c2', c3, c3']⟩
  have c3' : ¬ (150 : Int) < bt.length := by omega
  obtain ⟨m, rfl⟩ : ∃ m : Nat, n = m := ⟨n.toNat, by omega⟩
  have w0 : IntKind.i64.wrap (m : Int) = m := wrap64 (by omega) (by omega)
  obtain ⟨h1, tid, F1, e1, t1, m1⟩ := newT m (by omega) []
  obtain ⟨h2, uid, G1, e2, t2, m2⟩ := newT m (by omega) h1
  have b2 : B2 h2 tid uid F1 G1 ⟨List.replicate m 0, List.replicate m 0, [List.replicate m 0]⟩ ⟨List.replicate m 0, List.replicate m 0, [List.replicate m 0]⟩ := ⟨t1.keep fun j hj => m2.k j (t1.lt j hj) (by simp), t2, fun j hj hg => by
    rcases m2.f j hg with q | q
    · simp at q
    · have := t1.lt j hj; omega⟩
  obtain ⟨rv, r1⟩ := TI.TR.row b2.t
  obtain ⟨rw2, r2⟩ := TI.TR.row b2.u
  obtain ⟨h3, F3, G3, st3, e3, b3, bd3, hC3⟩ := loop0 l (by omega) (.int .u8 m) (acsV bt) tid uid l.length 0 h2 F1 G1 _ (by omega) b2 ⟨fun s hs => by have := List.eq_of_mem_replicate hs; omega, by simp⟩
  obtain ⟨C, S, Os⟩ := st3
  have hlC : C.length = m := by simpa using hC3
  have hO := bd3.o
  obtain ⟨h4, F4, e4, t4, m4⟩ := saveT b3.t (by simp only at hO ⊢; omega)
  have b4 : B2 h4 tid uid F4 G3 ⟨C, S, C :: Os⟩ ⟨C, S, Os⟩ := b3.mv m4 t4
  have bd4 : Bd 151 ⟨C, S, C :: Os⟩ := bd3.act 1 0 0
  simp only at hO e4
  obtain ⟨h5, F5, st5, e5, b5, bd5, mk5, up5, l5⟩ := loop1 bt (by omega) (.int .u8 m) tid uid ⟨C, S, Os⟩ C Os (by omega) G3 bt.length 0 h4 F4 _ (by omega) b4 (by simpa using bd4) ⟨[], rfl⟩
  obtain ⟨X, hX⟩ := mk5
  obtain ⟨A0, r0, hA0⟩ : ∃ A0 r0, Os = A0 :: r0 := by
    have := b3.u.lens.2.2
    cases Os with
    | nil => exact absurd rfl this
    | cons y Y => exact ⟨_, _, rfl⟩
  subst hA0
  simp only [List.length_cons] at hO
  have hXl : X.length ≤ 302 := by
    have := bd5.o
    rw [hX] at this
    simp at this
    omega
  have q1 : (((A0 :: r0).length : Nat) : Int) = (r0.length : Int) + 1 := by simp
  rw [q1] at e4 e5
  obtain ⟨h6, F6, S6, e6, b6, up6⟩ := loop2 (.int .u8 m) tid uid ⟨C, S, A0 :: r0⟩ C A0 r0 (by omega) G3 X.length X [(0, .int .u8 m), (7, .ptr tid 0 0 1), (9, .ptr uid 0 0 1), (13, iv ((r0.length : Int) + 1)), (72, .sl 3 (bt.map acV)), (73, iv bt.length), (74, iv bt.length), (75, .bool false)] h5 F5 st5 301 rfl rfl rfl rfl rfl b5 bd5 (by omega) hX
  have km := b6.t.marks (by simp; omega)
  have ku := b6.u.marks (by simp; omega)
  have q2 : (((A0 :: r0).length : Nat) : Int) - 1 = (r0.length : Int) := by simp
  simp only at km ku
  rw [q2] at km ku
  have kc := b6.t.chg (by omega) (by simp only; omega)
  simp only at kc
  obtain ⟨h7, hh7⟩ : ∃ h7, h7 = accH 1 (h6 ++ [.dead]) (iL (chg C A0)) := ⟨_, rfl⟩
  obtain ⟨l1, el1, ll1⟩ := acc_more (z := 1) (h := h6) (xs := iL (chg C A0)) (o := .dead)
  have hD2 : h7 = h6 ++ l1 := by rw [hh7, el1]
  have b7 : B2 h7 tid uid F6 G3 ⟨C, S6, A0 :: r0⟩ ⟨C, S, A0 :: r0⟩ := by rw [hD2]; exact b6.more
  have kc2 := b7.u.chg (by omega) (by simp only; omega)
  simp only at kc2
  rw [← hh7] at kc
  obtain ⟨h8, hh8⟩ : ∃ h8, h8 = accH 1 (h7 ++ [.dead]) (iL (chg C A0)) := ⟨_, rfl⟩
  obtain ⟨l2, el2, ll2⟩ := acc_more (z := 1) (h := h7) (xs := iL (chg C A0)) (o := .dead)
  have hE2 : h8 = h7 ++ l2 := by rw [hh8, el2]
  have b8 : B2 h8 tid uid F6 G3 ⟨C, S6, A0 :: r0⟩ ⟨C, S, A0 :: r0⟩ := by rw [hE2]; exact b7.more
  rw [← hh8] at kc2
  have g1 : chg C A0 = [] ∨ h8[h6.length + 1]? = some (.row 1 (iL (chg C A0))) := by
    by_cases c : chg C A0 = []
    · exact .inl c
    · refine .inr ?_
      rw [hE2]
      refine get_some ?_
      rw [hh7]
      simp [accH, c]
  have g2 : chg C A0 = [] ∨ h8[h7.length + 1]? = some (.row 1 (iL (chg C A0))) := by
    by_cases c : chg C A0 = []
    · exact .inl c
    · refine .inr ?_
      rw [hh8]
      simp [accH, c]
  have kS : acw M.C n_ref02_Same [accV 1 (h6.length + 1) (iL (chg C A0)), accV 1 (h7.length + 1) (iL (chg C A0))] h8 = some (.ret (.bool true), h8) := by
    have hc := chg_len (C := C) (B := A0)
    have hks := ref02_same (chg C A0) (chg C A0) (by omega) []
    rw [decide_eq_true rfl] at hks
    refine acw_of_frz (CT T_ref02_Same) rfl (a2 := [intsV (chg C A0), intsV (chg C A0)]) ?_ rfl hks rfl
    have q1 := frz_accV g1 10
    have q2 := frz_accV g2 10
    show mapO (frz h8 12) _ = _
    simp only [mapO, q1, q2]
  have e9 := loop3 b8 (up5.trans up6) (by omega) C.length 0 (by omega)
  simp only [Int.cast_ofNat_Int] at e3 e5 e9
  rw [hlC] at e9
  refine ⟨h8, ?_⟩
  have f1 : acsV l = .sl 3 (l.map acV) := rfl
  have f2 : acsV bt = .sl 3 (bt.map acV) := rfl
  rw [f1, f2] at e3
  rw [f2] at e5
  simp [runW_fin, F_law05_TrailBack, i_law05_TrailBack, k0, f1, f2, c1, c2, c2', c3, c3', w0, e1, e2, r1, r2, e3, e4, e5, e6, km, ku, kc, kc2, kS, e9, ine]
end Go.RR.TK
