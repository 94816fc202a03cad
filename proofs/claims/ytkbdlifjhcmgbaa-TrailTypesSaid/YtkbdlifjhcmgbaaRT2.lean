/- The document's trail: what it is; a cell has something; all is turned back. -/
import Derived.Test.YtkbdlifjhcmgbaaRT1
import Derived.Test.YtkbdlifjhcmgbaaR5
set_option linter.unusedVariables false
set_option linter.unusedSimpArgs false
set_option linter.unusedVariables false
set_option linter.unusedSimpArgs false
set_option maxRecDepth 100000
set_option maxHeartbeats 4000000
namespace Go.RR.TP
open Go Go.RR Go.RR.M Go.RR.TI
theorem put {h : List Ob} {tid cid sid : Nat} {C : List Int} {S : List Int} {ov : V} (a : TB h tid cid sid C S ov) (i : Nat) (hi : i < C.length) (x : Int) (hS : ∀ s ∈ S, 0 ≤ s ∧ s ≤ 1000000) :
    ∃ h', acw M.C n_ref05_Trail_Put [.ptr tid 0 0 1, iv i, iv x] h = some (.ret (.tup []), h') ∧ TB h' tid cid sid (C.set i x) (putS C S i x) ov ∧ (∀ j, j ≠ cid → j ≠ sid → h'[j]? = h[j]?) ∧ h'.length = h.length := by
  obtain ⟨a1, a2, a3, n1, n2, n3, sl⟩ := a
  have hc := (List.getElem?_eq_some_iff.1 a2).1
  have hs := (List.getElem?_eq_some_iff.1 a3).1
  have hi2 : (i : Int) < C.length := by omega
  obtain ⟨y, hy⟩ : ∃ y, y = C[i] := ⟨_, rfl⟩
  have h3 : C[i]? = some y := by simp [hi, hy]
  have h4 : ∀ h : i < C.length, C[i]'h = y := fun _ => hy.symm
  have his : i < S.length := by omega
  obtain ⟨s, hs0⟩ : ∃ s, s = S[i] := ⟨_, rfl⟩
  have h5 : S[i]? = some s := by simp [his, hs0]
  have h6 : ∀ h : i < S.length, S[i]'h = s := fun _ => hs0.symm
  have hsb := hS s (by rw [hs0]; exact List.getElem_mem his)
  have hgd : S.getD i 0 = s := by rw [List.getD_eq_getElem?_getD, h5]; rfl
  by_cases c : y = x
  · subst c
    obtain ⟨h1, hh1⟩ : ∃ h1, h1 = h.set cid (.row 1 ((C.set i y).map en)) := ⟨_, rfl⟩
    have u1 : wr h (some (cid, .row 1 ((C.map en).set i (en y)))) = h1 := by rw [wr_lt hc, hh1, List.map_set]
    refine ⟨h1, ?_, ⟨?_, ?_, ?_, n1, n2, n3, ?_⟩, fun j k1 k2 => by rw [hh1, List.getElem?_set_ne (Ne.symm k1)], by rw [hh1, List.length_set]⟩
    · rw [acw_hm (hKC _ _ T_ref05_Trail_Put) rfl]
      simp [runW_fin, F_ref05_Trail_Put, i_ref05_Trail_Put, a1, a2, a3, hi, hi2, h3, h4, bnA, u1]
    · rw [List.length_set, hh1, List.getElem?_set_ne (Ne.symm n1)]; exact a1
    · rw [hh1, List.getElem?_set_self hc]
    · unfold putS; rw [if_pos h3, hh1, List.getElem?_set_ne n3]; exact a3
    · rw [List.length_set, putS_len]; exact sl
  · have w1 : IntKind.i64.wrap (s + 1) = s + 1 := wrap64 (by omega) (by omega)
    obtain ⟨h1, hh1⟩ : ∃ h1, h1 = h.set sid (.row 1 ((S.set i (s + 1)).map (V.int .i64))) := ⟨_, rfl⟩
    obtain ⟨h2, hh2⟩ : ∃ h2, h2 = h1.set cid (.row 1 ((C.set i x).map en)) := ⟨_, rfl⟩
    have g1 : h1[tid]? = some (.row 3 [.agg [.own cid 0 C.length C.length, .own sid 0 C.length C.length, ov]]) := by rw [hh1, List.getElem?_set_ne (Ne.symm n2)]; exact a1
    have g2 : h1[cid]? = some (.row 1 (C.map en)) := by rw [hh1, List.getElem?_set_ne (Ne.symm n3)]; exact a2
    have u1 : wr h (some (sid, .row 1 ((S.map (V.int .i64)).set i (.int .i64 (s + 1))))) = h1 := by rw [wr_lt hs, hh1, List.map_set]
    have u2 : wr h1 (some (cid, .row 1 ((C.map en).set i (en x)))) = h2 := by rw [wr_lt (by rw [hh1, List.length_set]; exact hc), hh2, List.map_set]
    refine ⟨h2, ?_, ⟨?_, ?_, ?_, n1, n2, n3, ?_⟩, fun j k1 k2 => ?_, by rw [hh2, List.length_set, hh1, List.length_set]⟩
    · rw [acw_hm (hKC _ _ T_ref05_Trail_Put) rfl]
      simp [runW_fin, F_ref05_Trail_Put, i_ref05_Trail_Put, a1, a2, a3, hi, hi2, h3, h4, his, sl, h5, h6, bnA, c, w1, u1, u2, g1, g2]
    · rw [List.length_set, hh2, List.getElem?_set_ne (Ne.symm n1)]; exact g1
    · rw [hh2, List.getElem?_set_self (by rw [hh1, List.length_set]; exact hc)]
    · rw [hh2, List.getElem?_set_ne n3, hh1]; unfold putS; rw [if_neg (by rw [h3]; simpa using c), hgd]; simp [hs]
    · rw [List.length_set, putS_len]; exact sl
    · rw [hh2, List.getElem?_set_ne (Ne.symm k1), hh1, List.getElem?_set_ne (Ne.symm k2)]
/-- copies in memory -/
def Bz (h : List Ob) (n : Nat) : List Nat → List (List Int) → Prop
  | [], [] => True
  | b :: bs, B :: Os => h[b]? = some (.row 1 (B.map en)) ∧ B.length = n ∧ Bz h n bs Os
  | _, _ => False
theorem Bz.keep {h h' : List Ob} {n : Nat} : ∀ {bs : List Nat} {Os : List (List Int)}, Bz h n bs Os → (∀ j ∈ bs, h'[j]? = h[j]?) → Bz h' n bs Os
  | [], [], _, _ => trivial
  | b :: bs, B :: Os, ⟨a, l, r⟩, k => ⟨by rw [k b (by simp)]; exact a, l, r.keep fun j hj => k j (by simp [hj])⟩
  | [], _ :: _, a, _ => a.elim
  | _ :: _, [], a, _ => a.elim
theorem Bz.len {h : List Ob} {n : Nat} : ∀ {bs : List Nat} {Os : List (List Int)}, Bz h n bs Os → bs.length = Os.length
  | [], [], _ => rfl
  | b :: bs, B :: Os, ⟨a, l, r⟩ => by simp [r.len]
  | [], _ :: _, a => a.elim
  | _ :: _, [], a => a.elim
theorem Bz.lt {h : List Ob} {n : Nat} : ∀ {bs : List Nat} {Os : List (List Int)}, Bz h n bs Os → ∀ j ∈ bs, j < h.length
  | [], [], _, _, hj => by simp at hj
  | b :: bs, B :: Os, ⟨a, l, r⟩, j, hj => by
    rcases List.mem_cons.1 hj with rfl | q
    · exact (List.getElem?_eq_some_iff.1 a).1
    · exact r.lt j q
  | [], _ :: _, a, _, _ => a.elim
  | _ :: _, [], a, _, _ => a.elim
structure PX (h : List Ob) (tid cid sid oid : Nat) (xs : List V) (bs : List Nat) (C S : List Int) (Os : List (List Int)) : Prop where
  a : TB h tid cid sid C S (.own oid 0 Os.length xs.length)
  o : h[oid]? = some (.row 1 xs)
  x : xs.take Os.length = bs.reverse.map fun b => .own b 0 C.length C.length
  z : Bz h C.length bs Os
  oc : oid ≠ cid
  os : oid ≠ sid
  ot : oid ≠ tid
  bc : cid ∉ bs
  b2 : sid ∉ bs
  bt : tid ∉ bs
  ne : Os ≠ []
abbrev pfoot (tid cid sid oid : Nat) (bs : List Nat) : List Nat := tid :: cid :: sid :: oid :: bs
def PR (h : List Ob) (tid : Nat) (F : List Nat) (C S : List Int) (Os : List (List Int)) : Prop := ∃ cid sid oid xs bs, PX h tid cid sid oid xs bs C S Os ∧ F = pfoot tid cid sid oid bs
theorem PR.keep {h h' : List Ob} {tid : Nat} {F : List Nat} {C S : List Int} {Os : List (List Int)} (t : PR h tid F C S Os) (k : ∀ j ∈ F, h'[j]? = h[j]?) : PR h' tid F C S Os := by
  obtain ⟨cid, sid, oid, xs, bs, t, rfl⟩ := t
  exact ⟨cid, sid, oid, xs, bs, ⟨t.a.keep fun j hj => k j (by simp [pfoot]; rcases hj with h | h | h <;> simp [h]), by rw [k oid (by simp [pfoot])]; exact t.o, t.x, t.z.keep fun j hj => k j (by simp [pfoot, hj]), t.oc, t.os, t.ot, t.bc, t.b2, t.bt, t.ne⟩, rfl⟩
theorem PX.lt {h : List Ob} {tid cid sid oid : Nat} {xs : List V} {bs : List Nat} {C S : List Int} {Os : List (List Int)} (t : PX h tid cid sid oid xs bs C S Os) : ∀ j ∈ pfoot tid cid sid oid bs, j < h.length := by
  intro j hj
  simp only [pfoot, List.mem_cons] at hj
  rcases hj with rfl | rfl | rfl | rfl | hj
  · exact (List.getElem?_eq_some_iff.1 t.a.t).1
  · exact (List.getElem?_eq_some_iff.1 t.a.c).1
  · exact (List.getElem?_eq_some_iff.1 t.a.s).1
  · exact (List.getElem?_eq_some_iff.1 t.o).1
  · exact t.z.lt j hj
theorem PR.lt {h : List Ob} {tid : Nat} {F : List Nat} {C S : List Int} {Os : List (List Int)} (t : PR h tid F C S Os) : ∀ j ∈ F, j < h.length := by
  obtain ⟨cid, sid, oid, xs, bs, t, rfl⟩ := t
  exact t.lt
theorem setNo {h : List Ob} {tid : Nat} {F : List Nat} {C S : List Int} {Os : List (List Int)} (t : PR h tid F C S Os) (i x : Int) (hi : ¬ (0 ≤ i ∧ i < C.length)) : acw M.C n_ref05_Trail_Set [.ptr tid 0 0 1, iv i, iv x] h = some (.ret (iv 1), h) := by
  obtain ⟨cid, sid, oid, xs, bs, t, rfl⟩ := t
  obtain ⟨a1, a2, a3, n1, n2, n3, sl⟩ := t.a
  rw [acw_hm (hKC _ _ T_ref05_Trail_Set) rfl]
  by_cases c1 : i < 0
  · simp [runW_fin, F_ref05_Trail_Set, i_ref05_Trail_Set, a1, a2, c1]
  · have c2 : (C.length : Int) ≤ i := by omega
    have c3 : 0 ≤ i := by omega
    simp [runW_fin, F_ref05_Trail_Set, i_ref05_Trail_Set, a1, a2, c1, c2, c3]
theorem setP {h : List Ob} {tid : Nat} {F : List Nat} {C S : List Int} {Os : List (List Int)} (t : PR h tid F C S Os) (hS : ∀ s ∈ S, 0 ≤ s ∧ s ≤ 999999) (i : Nat) (hi : i < C.length) (x : Int) :
    ∃ h', acw M.C n_ref05_Trail_Set [.ptr tid 0 0 1, iv i, iv x] h = some (.ret (iv 0), h') ∧ PR h' tid F (C.set i x) (putS C S i x) Os ∧ Mv 0 h h' F F := by
  obtain ⟨cid, sid, oid, xs, bs, t, rfl⟩ := t
  obtain ⟨h2, kp, tb2, same, len⟩ := put t.a i hi x (fun s hs => by have := hS s hs; omega)
  obtain ⟨a, o, x0, z, oc, os, ot, bc, b2, bt, ne⟩ := t
  refine ⟨h2, ?_, ⟨cid, sid, oid, xs, bs, ⟨tb2, by rw [same oid oc os]; exact o, by simpa using x0, ?_, oc, os, ot, bc, b2, bt, ne⟩, rfl⟩, ⟨by omega, fun j hj hn => ?_, fun j hj => .inl hj, by omega⟩⟩
  · obtain ⟨a1, a2, a3, n1, n2, n3, sl⟩ := a
    have c1 : ¬ ((i : Int) < 0) := by omega
    have c2 : ¬ ((C.length : Int) ≤ i) := by omega
    rw [acw_hm (hKC _ _ T_ref05_Trail_Set) rfl]
    simp [runW_fin, F_ref05_Trail_Set, i_ref05_Trail_Set, a1, a2, c1, c2, kp, hi]
  · rw [List.length_set]
    exact z.keep fun j hj => same j (fun q => bc (q ▸ hj)) (fun q => b2 (q ▸ hj))
  · simp only [pfoot, List.mem_cons, not_or] at hn
    exact same j hn.2.1 hn.2.2.1
end Go.RR.TP
set_option linter.unusedVariables false
set_option linter.unusedSimpArgs false
set_option maxRecDepth 100000
set_option maxHeartbeats 4000000
namespace Go.RR.TP
open Go Go.RR Go.RR.M Go.RR.TI
theorem PX.top {h : List Ob} {tid cid sid oid b : Nat} {xs : List V} {bs : List Nat} {B C S : List Int} {Os : List (List Int)} (t : PX h tid cid sid oid xs (b :: bs) C S (B :: Os)) : xs[Os.length]? = some (.own b 0 C.length C.length) := by
  have := t.x
  have e : (xs.take (B :: Os).length)[Os.length]? = xs[Os.length]? := List.getElem?_take_of_lt (by simp)
  rw [← e, this]
  have hl : bs.length = Os.length := t.z.2.2.len
  simp [hl]
theorem und_loop {tid cid sid oid b m tot : Nat} {xs : List V} {B C S : List Int} (hxl : xs.length = tot) (hm : m + 1 ≤ tot) (hx : xs[m]? = some (.own b 0 C.length C.length)) (hB : B.length = C.length) (hC : C.length ≤ 1000) (hS : ∀ s ∈ S, 0 ≤ s ∧ s ≤ 999999) (oc : oid ≠ cid) (os : oid ≠ sid) (bc : b ≠ cid) (b2 : b ≠ sid) (hsl : S.length = C.length) :
    ∀ (d i : Nat) (h : List Ob) (C' S' : List Int), i + d = C.length → TB h tid cid sid C' S' (.own oid 0 (m + 1) tot) → h[oid]? = some (.row 1 xs) → h[b]? = some (.row 1 (B.map en)) → C'.length = C.length → (∀ j, j < i → C'[j]? = B[j]? ∧ S'[j]? = (bump C B S)[j]?) → (∀ j, i ≤ j → C'[j]? = C[j]? ∧ S'[j]? = S[j]?) →
    ∃ h', evw M.C y0 i_ref05_Trail_Undo_l0 [(0, .ptr tid 0 0 1), (3, iv m), (4, iv i)] h = some (.ext 0, [(0, .ptr tid 0 0 1), (3, iv m), (4, iv C.length), (19, .bool false)], h') ∧ TB h' tid cid sid B (bump C B S) (.own oid 0 (m + 1) tot) ∧ (∀ j, j ≠ cid → j ≠ sid → h'[j]? = h[j]?) ∧ h'.length = h.length := by
  intro d
  induction d with
  | zero =>
    intro i h C' S' hi tb ho hb hl lo hi2
    have hiC : i = C.length := by omega
    have eC : C' = B := List.ext_getElem? fun j => by
      by_cases q : j < i
      · exact (lo j q).1
      · rw [List.getElem?_eq_none (by omega), List.getElem?_eq_none (by omega)]
    have eS : S' = bump C B S := List.ext_getElem? fun j => by
      by_cases q : j < i
      · exact (lo j q).2
      · have h1 := tb.sl
        rw [List.getElem?_eq_none (by omega), List.getElem?_eq_none (by rw [bump_len]; omega)]
    subst eC eS
    refine ⟨h, ?_, tb, fun _ _ _ => rfl, rfl⟩
    obtain ⟨a1, a2, a3, n1, n2, n3, sl⟩ := tb
    rw [r_ref05_Trail_Undo_0]
    subst hiC
    simp [b_ref05_Trail_Undo_0, a1, a2, hl]
  | succ d ih =>
    intro i h C' S' hi tb ho hb hl lo hi2
    have hiC : i < C.length := by omega
    have hiC' : i < C'.length := by omega
    obtain ⟨y, hy⟩ : ∃ y, y = B[i]'(by omega) := ⟨_, rfl⟩
    have hiB : i < B.length := by omega
    have h3 : B[i]? = some y := by simp [hiB, hy]
    have h4 : ∀ h : i < B.length, B[i]'h = y := fun _ => hy.symm
    have hS' : ∀ s ∈ S', 0 ≤ s ∧ s ≤ 1000000 := fun s hs => by
      obtain ⟨j, hj, rfl⟩ := List.mem_iff_getElem.1 hs
      have hjS : j < S.length := by have := tb.sl; omega
      have hb2 := hS _ (List.getElem_mem hjS)
      by_cases q : j < i
      · have := (lo j q).2
        rw [bump_get, List.getElem?_eq_getElem hj, List.getElem?_eq_getElem hjS] at this
        have := Option.some.inj this
        rw [this]
        simp only
        split <;> omega
      · have := (hi2 j (by omega)).2
        rw [List.getElem?_eq_getElem hj, List.getElem?_eq_getElem hjS] at this
        have := Option.some.inj this
        rw [this]
        omega
    obtain ⟨h2, kp, tb2, same, len⟩ := put tb i hiC' y hS'
    have hiS : i < S.length := by omega
    have hSi := (hi2 i (Nat.le_refl _)).2
    have hCi := (hi2 i (Nat.le_refl _)).1
    have hg : S'.getD i 0 = S[i] := by rw [List.getD_eq_getElem?_getD, hSi, List.getElem?_eq_getElem hiS]; rfl
    obtain ⟨h5, e5, t5, s5, l5⟩ := ih (i + 1) h2 _ _ (by omega) tb2 (by rw [same oid oc os]; exact ho) (by rw [same b bc b2]; exact hb) (by rw [List.length_set]; exact hl) (fun j hj => by
      by_cases q : j = i
      · subst q
        constructor
        · rw [List.getElem?_set_self hiC', h3]
        · rw [bump_get, List.getElem?_eq_getElem hiS]
          unfold putS
          rw [hCi, h3]
          by_cases c : C[j]? = some y
          · simp only [c, if_true, hSi, List.getElem?_eq_getElem hiS]
            simp
          · simp only [c, if_false]
            rw [List.getElem?_set_self (by have := tb.sl; omega), hg]
            simp
      · have hj' : j < i := by omega
        rw [List.getElem?_set_ne (Ne.symm q)]
        refine ⟨(lo j hj').1, ?_⟩
        unfold putS
        split
        · exact (lo j hj').2
        · rw [List.getElem?_set_ne (Ne.symm q)]; exact (lo j hj').2) (fun j hj => by
      have q : j ≠ i := by omega
      rw [List.getElem?_set_ne (Ne.symm q)]
      refine ⟨(hi2 j (by omega)).1, ?_⟩
      unfold putS
      split
      · exact (hi2 j (by omega)).2
      · rw [List.getElem?_set_ne (Ne.symm q)]; exact (hi2 j (by omega)).2)
    refine ⟨h5, ?_, t5, fun j k1 k2 => by rw [s5 j k1 k2, same j k1 k2], by rw [l5, len]⟩
    obtain ⟨a1, a2, a3, n1, n2, n3, sl⟩ := tb
    have hw : IntKind.i64.wrap ((i : Int) + 1) = (i : Int) + 1 := wrap64 (by omega) (by omega)
    have hi3 : (i : Int) < C'.length := by omega
    have c1 : m < tot := by omega
    have c2 : (m : Int) < (m : Int) + 1 := by omega
    have hm4 : ∀ h : m < xs.length, xs[m]'h = .own b 0 C.length C.length := fun _ => (List.getElem?_eq_some_iff.1 hx).2
    have hi4 : (i : Int) < C.length := by omega
    simp only [Int.natCast_add, Int.cast_ofNat_Int] at e5
    rw [r_ref05_Trail_Undo_0, ← e5]
    simp [b_ref05_Trail_Undo_0, a1, a2, ho, hxl, hm, hi3, hiC', c1, c2, hx, hm4, hb, hB, hi4, hiC, hiB, h3, h4, kp, hw]
theorem undoP {h : List Ob} {tid : Nat} {F : List Nat} {A B C S : List Int} {Os : List (List Int)} (t : PR h tid F C S (B :: A :: Os)) (hS : ∀ s ∈ S, 0 ≤ s ∧ s ≤ 999999) (hO : Os.length ≤ 999990) (hC : C.length ≤ 1000) :
    ∃ h' F', acw M.C n_ref05_Trail_Undo [.ptr tid 0 0 1] h = some (.ret (iv 0), h') ∧ PR h' tid F' B (bump C B S) (A :: Os) ∧ Mv 0 h h' F F' := by
  obtain ⟨cid, sid, oid, xs, bs, t, rfl⟩ := t
  have lt := t.lt
  have hl := t.z.len
  match bs, t, lt, hl with
  | [], t, lt, hl => simp at hl
  | b :: bs, t, lt, hl =>
  have t1 := t.top
  obtain ⟨a, o, x, ⟨z1, z2, z3⟩, oc, os, ot, bc, b2, bt, ne⟩ := t
  simp only [List.mem_cons, not_or] at bc b2 bt
  have hbs : bs.length = Os.length + 1 := by simpa using hl
  have lx : Os.length + 2 ≤ xs.length := by
    have := congrArg List.length x
    simp at this
    omega
  simp only [List.length_cons] at t1
  obtain ⟨h1, e1, tb1, s1, l1⟩ := und_loop (m := Os.length + 1) rfl (by omega) t1 z2 hC hS oc os (Ne.symm bc.1) (Ne.symm b2.1) a.sl C.length 0 h C S (by omega) a o z1 rfl (fun j hj => by omega) (fun j _ => ⟨rfl, rfl⟩)
  have ltid : tid < h.length := lt tid (by simp [pfoot])
  obtain ⟨h2, hh2⟩ : ∃ h2, h2 = h1.set tid (.row 3 [.agg [.own cid 0 B.length B.length, .own sid 0 B.length B.length, .own oid 0 (Os.length + 1) xs.length]]) := ⟨_, rfl⟩
  have u2 : wr h1 (some (tid, .row 3 [.agg [.own cid 0 B.length B.length, .own sid 0 B.length B.length, .own oid 0 (Os.length + 1) xs.length]])) = h2 := by rw [wr_lt (by omega), hh2]
  have o1 : h1[oid]? = some (.row 1 xs) := by rw [s1 oid oc os]; exact o
  have same : ∀ j, j ≠ cid → j ≠ sid → j ≠ tid → h2[j]? = h[j]? := fun j k1 k2 k3 => by rw [hh2, List.getElem?_set_ne (Ne.symm k3), s1 j k1 k2]
  refine ⟨h2, pfoot tid cid sid oid bs, ?_, ⟨cid, sid, oid, xs, bs, ⟨⟨by rw [hh2, List.getElem?_set_self (by omega)]; rfl, ?_, ?_, a.n1, a.n2, a.n3, tb1.sl⟩, ?_, ?_, ?_, oc, os, ot, bc.2, b2.2, bt.2, by simp⟩, rfl⟩, ⟨by rw [hh2, List.length_set]; omega, fun j hj hn => ?_, fun j hj => .inl ?_, by rw [hh2, List.length_set]; omega⟩⟩
  · obtain ⟨a1, a2, a3, n1, n2, n3, sl⟩ := a
    have w1 : IntKind.i64.wrap ((Os.length : Int) + 1) = (Os.length : Int) + 1 := wrap64 (by omega) (by omega)
    have c0 : ((Os.length : Int) + 1 == 0) = false := by rw [beq_eq_false_iff_ne]; omega
    have c2 : 0 ≤ (Os.length : Int) + 1 := by omega
    have c3 : (Os.length : Int) + 1 ≤ (Os.length : Int) + 1 + 1 := by omega
    have c4 : ((Os.length : Int) + 1).toNat = Os.length + 1 := by omega
    simp only [Int.natCast_add, Int.cast_ofNat_Int] at e1
    have tb1t := tb1.t
    rw [acw_hm (hKC _ _ T_ref05_Trail_Undo) rfl]
    simp [runW_fin, F_ref05_Trail_Undo, i_ref05_Trail_Undo, a1, o, w1, c0, e1, tb1t, o1, lx, c2, c3, c4, u2]
  · rw [hh2, List.getElem?_set_ne a.n1]; exact tb1.c
  · rw [hh2, List.getElem?_set_ne a.n2]; exact tb1.s
  · rw [hh2, List.getElem?_set_ne (Ne.symm ot)]; exact o1
  · have e : xs.take (Os.length + 1) = (xs.take (Os.length + 2)).take (Os.length + 1) := by rw [List.take_take]; congr 1; omega
    have t0' : xs.take (Os.length + 2) = _ := x
    show xs.take (Os.length + 1) = _
    rw [e, t0']
    simp only [List.reverse_cons, List.map_append, List.map_cons, List.map_nil]
    rw [z2]
    exact List.take_left' (by simp [hbs])
  · rw [z2]
    exact z3.keep fun j hj => same j (fun q => bc.2 (q ▸ hj)) (fun q => b2.2 (q ▸ hj)) (fun q => bt.2 (q ▸ hj))
  · simp only [pfoot, List.mem_cons, not_or] at hn
    exact same j hn.2.1 hn.2.2.1 hn.1
  · simp only [pfoot, List.mem_cons] at hj ⊢
    rcases hj with q | q | q | q | q <;> simp [q]
end Go.RR.TP
set_option linter.unusedVariables false
set_option linter.unusedSimpArgs false
set_option maxRecDepth 100000
set_option maxHeartbeats 4000000
namespace Go.RR.TP
open Go Go.RR Go.RR.M Go.RR.TI
def chgN (C B : List Int) (n : Nat) : List Int := ((List.range n).filter fun i : Nat => decide (C[i]? ≠ B[i]?)).map fun i : Nat => (i : Int)
theorem chgN_succ {C B : List Int} {n : Nat} : chgN C B (n + 1) = chgN C B n ++ if C[n]? = B[n]? then [] else [(n : Int)] := by
  unfold chgN
  rw [List.range_succ, List.filter_append, List.map_append]
  by_cases c : C[n]? = B[n]? <;> simp [c]
theorem chgN_len {C B : List Int} {n : Nat} : (chgN C B n).length ≤ n := by
  unfold chgN
  rw [List.length_map]
  exact Nat.le_trans (List.length_filter_le _ _) (by simp)
theorem app_own {h : List Ob} {id k : Nat} {xs : List V} {y : V} (e : h[id]? = some (.row 1 xs)) (hk : xs.length = k) (hk2 : k ≤ 1000000) : appV h.length h 1 8 (.own id 0 k k) (.sl 1 [y]) = some (.own id 0 (k + 1) (k + 1), some (id, .row 1 (xs ++ [y]))) := by
  subst hk
  have := app_mark (m := xs.length) (v := .sl 1 [y]) (y := y) e (Nat.le_refl _) hk2 rfl
  have e2 : ovr xs.length xs [y] = xs ++ [y] := by unfold ovr; simp
  rw [e2] at this
  rw [this]
  simp
theorem chg_loop {h : List Ob} {tid cid sid b : Nat} {B C S : List Int} {ov : V} (a : TB h tid cid sid C S ov) (hb : h[b]? = some (.row 1 (B.map en))) (hB : B.length = C.length) (hC : C.length ≤ 1000) :
    ∀ (d i : Nat), i + d = C.length → evw M.C y0 i_ref05_Trail_Changed_l0 [(0, .ptr tid 0 0 1), (3, .own h.length 0 (chgN C B i).length (chgN C B i).length), (4, .own b 0 C.length C.length), (5, iv i)] (h ++ [.row 1 (iL (chgN C B i))]) =
      some (.ext 0, [(0, .ptr tid 0 0 1), (3, .own h.length 0 (chg C B).length (chg C B).length), (4, .own b 0 C.length C.length), (5, iv C.length), (25, .bool false)], h ++ [.row 1 (iL (chg C B))]) := by
  intro d
  induction d with
  | zero =>
    intro i hi
    have hiC : i = C.length := by omega
    subst hiC
    have a1 := get_some (l := [Ob.row 1 (iL (chgN C B C.length))]) a.t
    have a2 := get_some (l := [Ob.row 1 (iL (chgN C B C.length))]) a.c
    have e : chgN C B C.length = chg C B := rfl
    rw [r_ref05_Trail_Changed_0, ← e]
    simp [b_ref05_Trail_Changed_0, a1, a2]
  | succ d ih =>
    intro i hi
    have hiC : i < C.length := by omega
    have hiB : i < B.length := by omega
    obtain ⟨y, hy⟩ : ∃ y, y = B[i]'(by omega) := ⟨_, rfl⟩
    have h3 : B[i]? = some y := by simp [hiB, hy]
    have h4 : ∀ h : i < B.length, B[i]'h = y := fun _ => hy.symm
    obtain ⟨z, hz⟩ : ∃ z, z = C[i] := ⟨_, rfl⟩
    have h5 : C[i]? = some z := by simp [hiC, hz]
    have h6 : ∀ h : i < C.length, C[i]'h = z := fun _ => hz.symm
    have ih := ih (i + 1) (by omega)
    rw [chgN_succ, h3, h5] at ih
    simp only [Int.natCast_add, Int.cast_ofNat_Int] at ih
    have hw : IntKind.i64.wrap ((i : Int) + 1) = (i : Int) + 1 := wrap64 (by omega) (by omega)
    have hi4 : (i : Int) < C.length := by omega
    obtain ⟨ks, hks⟩ : ∃ ks, ks = chgN C B i := ⟨_, rfl⟩
    have hkl : ks.length ≤ i := by rw [hks]; exact chgN_len
    rw [← hks] at ih ⊢
    obtain ⟨h1, hh1⟩ : ∃ h1, h1 = h ++ [Ob.row 1 (iL ks)] := ⟨_, rfl⟩
    have a1 := get_some (l := [Ob.row 1 (iL ks)]) a.t
    have a2 := get_some (l := [Ob.row 1 (iL ks)]) a.c
    have a4 := get_some (l := [Ob.row 1 (iL ks)]) hb
    rw [← hh1] at a1 a2 a4
    have a5 : h1[h.length]? = some (.row 1 (iL ks)) := by rw [hh1]; simp
    have ka := app_own (y := iv (i : Int)) a5 (k := ks.length) (by simp) (by omega)
    have u1 : wr h1 (some (h.length, .row 1 (iL ks ++ [iv (i : Int)]))) = h ++ [Ob.row 1 (iL ks ++ [iv (i : Int)])] := by rw [hh1]; simp [wr]
    rw [← hh1]
    by_cases c : z = y
    · subst c
      simp only [if_true, List.append_nil] at ih
      rw [r_ref05_Trail_Changed_0, ← ih, ← hh1]
      simp [b_ref05_Trail_Changed_0, a1, a2, a4, hi4, hiC, hiB, hB, h3, h4, h5, h6, hw, bnA, ine]
    · have c' : ¬ (some z = some y) := by simpa using c
      rw [if_neg c'] at ih
      simp only [List.length_append, List.length_singleton] at ih
      have kbs : bsfL (.int .i64 0) [iv (i : Int)] = some (.sl 1 [iv (i : Int)]) := rfl
      rw [r_ref05_Trail_Changed_0, ← ih]
      simp [b_ref05_Trail_Changed_0, a1, a2, a4, hi4, hiC, hiB, hB, h3, h4, h5, h6, hw, bnA, ine, c, kbs, ka, u1]
theorem chgP {h : List Ob} {tid : Nat} {F : List Nat} {B C S : List Int} {Os : List (List Int)} (t : PR h tid F C S (B :: Os)) (hO : Os.length ≤ 999990) (hC : C.length ≤ 1000) :
    acw M.C n_ref05_Trail_Changed [.ptr tid 0 0 1] h = some (.ret (.own h.length 0 (chg C B).length (chg C B).length), h ++ [.row 1 (iL (chg C B))]) := by
  obtain ⟨cid, sid, oid, xs, bs, t, rfl⟩ := t
  have hl := t.z.len
  match bs, t, hl with
  | [], t, hl => simp at hl
  | b :: bs, t, hl =>
  have t1 := t.top
  obtain ⟨a, o, x, ⟨z1, z2, z3⟩, oc, os, ot, bc, b2, bt, ne⟩ := t
  have hlp := chg_loop a z1 z2 hC C.length 0 (by omega)
  have e0 : chgN C B 0 = [] := rfl
  rw [e0] at hlp
  simp at hlp
  have a1 := get_some (l := [Ob.row 1 []]) a.t
  have a3 := get_some (l := [Ob.row 1 []]) o
  have lx : Os.length + 1 ≤ xs.length := by
    have := congrArg List.length x
    simp at this
    have : bs.length = Os.length := by simpa using hl
    omega
  have w1 : IntKind.i64.wrap (Os.length : Int) = (Os.length : Int) := wrap64 (by omega) (by omega)
  have c2 : (Os.length : Int) < (Os.length : Int) + 1 := by omega
  have c3 : Os.length < xs.length := by omega
  have hm4 : ∀ h : Os.length < xs.length, xs[Os.length]'h = .own b 0 C.length C.length := fun _ => (List.getElem?_eq_some_iff.1 t1).2
  rw [acw_hm (hKC _ _ T_ref05_Trail_Changed) rfl]
  simp [runW_fin, F_ref05_Trail_Changed, i_ref05_Trail_Changed, a1, a3, lx, w1, c2, c3, t1, hm4, hlp]
theorem newP (n : Nat) (hn : n ≤ 1000) (h : List Ob) : ∃ h' tid F, acw M.C n_ref05_New [iv n] h = some (.ret (.tup [.ptr tid 0 0 1, iv 0]), h') ∧ PR h' tid F (List.replicate n 0) (List.replicate n 0) [List.replicate n 0] ∧ Mv 5 h h' [] F := by
  have c1 : ¬ ((n : Int) < 0) := by omega
  have c2 : ¬ ((1000 : Int) < n) := by omega
  have c3 : (n : Int) * 8 ≤ 70368744177664 := by omega
  have c4 : (n : Int) ≤ 70368744177664 := by omega
  refine ⟨h ++ [.row 1 (List.replicate n (en zA)), .row 1 (List.replicate n (iv 0)), .row 1 (List.replicate n (iv 0)), .row 1 [.own (h.length + 2) 0 n n], .row 3 [.agg [.own h.length 0 n n, .own (h.length + 1) 0 n n, .own (h.length + 3) 0 1 1]]], h.length + 4, pfoot (h.length + 4) h.length (h.length + 1) (h.length + 3) [h.length + 2], ?_, ⟨h.length, h.length + 1, h.length + 3, [.own (h.length + 2) 0 n n], [h.length + 2], ⟨⟨?_, ?_, ?_, by omega, by omega, by omega, by simp⟩, ?_, by simp, ⟨?_, rfl, trivial⟩, by omega, by omega, by omega, by simp, by simp, by simp, by simp⟩, rfl⟩, ⟨by simp, fun j hj _ => get_lt hj, fun j hj => .inr ?_, by simp⟩⟩
  · have q1 : ∀ k m : Nat, (m == m + (k + 1)) = false := fun k m => by rw [beq_eq_false_iff_ne]; omega
    have q2 : ∀ k m : Nat, (m + (k + 1) == m) = false := fun k m => by rw [beq_eq_false_iff_ne]; omega
    have d1 := q1 0 h.length
    have d2 := q1 1 h.length
    have d3 := q1 2 h.length
    have d4 := q1 3 h.length
    have f1 := q2 0 h.length
    have f2 := q2 1 h.length
    have f3 := q2 2 h.length
    have f4 := q2 3 h.length
    simp only [Nat.reduceAdd] at d1 d2 d3 d4 f1 f2 f3 f4
    rw [acw_hm (hKC _ _ T_ref05_New) rfl]
    simp [runW_fin, F_ref05_New, i_ref05_New, c1, c2, c3, c4, d1, d2, d3, d4, f1, f2, f3, f4]
  · simp
  · simp
  · simp
  · simp
  · simp
  · simp [pfoot] at hj; omega
end Go.RR.TP
set_option linter.unusedVariables false
set_option linter.unusedSimpArgs false
set_option maxRecDepth 100000
set_option maxHeartbeats 4000000
namespace Go.RR.TP
open Go Go.RR Go.RR.M Go.RR.TI
theorem app_gen {h : List Ob} {id k b n : Nat} {v : V} {xs ys : List V} (e : h[id]? = some (.row 1 xs)) (hk : xs.length = k) (hv : src h v = some (1, ys)) (hy : ys ≠ []) (hn : k + ys.length = n) (hk2 : n ≤ 1000001) (hb : b ≤ 100) : appV h.length h 1 b (.own id 0 k k) v = some (.own id 0 n n, some (id, .row 1 (xs ++ ys))) := by
  subst hk hn
  unfold appV
  have c1 : (xs.length + ys.length) * b ≤ 70368744177664 := Nat.le_trans (Nat.mul_le_mul hk2 hb) (by omega)
  have c2 : xs.length + ys.length ≤ 70368744177664 := by omega
  simp only [op1, ev_c, hv, if_true, rowOf, e, hy, if_false, Nat.zero_add, true_and, c1, c2, and_self, comb]
theorem app_none {h : List Ob} {id k b : Nat} {v : V} {xs : List V} (e : h[id]? = some (.row 1 xs)) (hk : xs.length = k) (hv : src h v = some (1, [])) : appV h.length h 1 b (.own id 0 k k) v = some (.own id 0 k k, none) := by
  subst hk
  unfold appV
  simp only [op1, ev_c, hv, if_true, rowOf, e]
theorem saveP {h : List Ob} {tid : Nat} {F : List Nat} {C S : List Int} {Os : List (List Int)} (t : PR h tid F C S Os) (hO : Os.length ≤ 999990) (hC : C.length ≤ 1000) :
    ∃ h' F', acw M.C n_ref05_Trail_Save [.ptr tid 0 0 1] h = some (.ret (iv Os.length), h') ∧ PR h' tid F' C S (C :: Os) ∧ Mv 3 h h' F F' := by
  obtain ⟨cid, sid, oid, xs, bs, t, rfl⟩ := t
  have lt := t.lt
  have hl := t.z.len
  obtain ⟨a, o, x, z, oc, os, ot, bc, b2, bt, ne⟩ := t
  have lx : Os.length ≤ xs.length := by
    have := congrArg List.length x
    simp at this
    omega
  have hpos : 0 < Os.length := List.length_pos_iff.2 ne
  have ltid : tid < h.length := lt tid (by simp [pfoot])
  have lcid : cid < h.length := lt cid (by simp [pfoot])
  have lsid : sid < h.length := lt sid (by simp [pfoot])
  have loid : oid < h.length := lt oid (by simp [pfoot])
  obtain ⟨ys, hys⟩ : ∃ ys, ys = xs.take Os.length := ⟨_, rfl⟩
  have lys : ys.length = Os.length := by rw [hys, List.length_take]; omega
  have nys : ys ≠ [] := fun q => by rw [q] at lys; simp at lys; omega
  have s1 : src (h ++ [Ob.row 1 []]) (.own oid 0 Os.length xs.length) = some (1, ys) := by
    have := get_some (l := [Ob.row 1 []]) o
    simp [src, elems, rowOf, this, lx, hys]
  have k1 := app_gen (h := h ++ [Ob.row 1 []]) (id := h.length) (k := 0) (b := 24) (xs := []) (by simp) rfl s1 nys (n := Os.length) (by omega) (by omega) (by omega)
  have s3 : src (h ++ [Ob.row 1 ys, Ob.row 1 (C.map en), Ob.row 1 [.own (h.length + 1) 0 C.length C.length]]) (.own (h.length + 2) 0 1 1) = some (1, [.own (h.length + 1) 0 C.length C.length]) := by
    simp [src, elems, rowOf]
  have k3 := app_gen (h := h ++ [Ob.row 1 ys, Ob.row 1 (C.map en), Ob.row 1 [.own (h.length + 1) 0 C.length C.length]]) (id := h.length) (k := Os.length) (b := 24) (xs := ys) (by simp) lys s3 (by simp) (n := Os.length + 1) (by simp) (by omega) (by omega)
  have q1 : ∀ k m : Nat, (m == m + (k + 1)) = false := fun k m => by rw [beq_eq_false_iff_ne]; omega
  have q2 : ∀ k m : Nat, (m + (k + 1) == m) = false := fun k m => by rw [beq_eq_false_iff_ne]; omega
  have d1 := q1 0 h.length
  have d2 := q1 1 h.length
  have f1 := q2 0 h.length
  have f2 := q2 1 h.length
  have mle : tid ≤ h.length + 3 := by omega
  have m0 : ¬ (h.length = tid) := by omega
  have m1 : ¬ (tid = h.length) := by omega
  have m2 : ¬ (h.length + 1 = tid) := by omega
  have m3 : ¬ (tid = h.length + 1) := by omega
  have m4 : ¬ (h.length + 2 = tid) := by omega
  have m5 : ¬ (tid = h.length + 2) := by omega
  have m6 : ¬ (h.length = cid) := by omega
  have m7 : ¬ (cid = h.length) := by omega
  have m8 : ¬ (h.length + 1 = cid) := by omega
  have m9 : ¬ (cid = h.length + 1) := by omega
  have m10 : ¬ (h.length + 2 = cid) := by omega
  have m11 : ¬ (cid = h.length + 2) := by omega
  have m12 : ¬ (h.length = oid) := by omega
  have m13 : ¬ (oid = h.length) := by omega
  have m14 : ¬ (h.length + 1 = oid) := by omega
  have m15 : ¬ (oid = h.length + 1) := by omega
  have m16 : ¬ (h.length + 2 = oid) := by omega
  have m17 : ¬ (oid = h.length + 2) := by omega
  have ta : ∀ l : List Ob, (h ++ l)[tid]? = _ := fun l => get_some a.t
  have ca : ∀ l : List Ob, (h ++ l)[cid]? = _ := fun l => get_some a.c
  have oa : ∀ l : List Ob, (h ++ l)[oid]? = _ := fun l => get_some o
  obtain ⟨h3, hh3⟩ : ∃ h3, h3 = h ++ [Ob.row 1 (ys ++ [.own (h.length + 1) 0 C.length C.length]), Ob.row 1 (C.map en), Ob.row 1 [.own (h.length + 1) 0 C.length C.length]] := ⟨_, rfl⟩
  obtain ⟨h4, hh4⟩ : ∃ h4, h4 = h3.set tid (.row 3 [.agg [.own cid 0 C.length C.length, .own sid 0 C.length C.length, .own h.length 0 (Os.length + 1) (Os.length + 1)]]) := ⟨_, rfl⟩
  have u4 : wr h3 (some (tid, .row 3 [.agg [.own cid 0 C.length C.length, .own sid 0 C.length C.length, .own h.length 0 (Os.length + 1) (Os.length + 1)]])) = h4 := by rw [wr_lt (by rw [hh3]; simp; omega), hh4]
  rw [hh3] at u4
  have L4 : h4.length = h.length + 3 := by rw [hh4, List.length_set, hh3]; simp
  have e4 : ∀ j, j < h.length → j ≠ tid → h4[j]? = h[j]? := fun j hj hn => by rw [hh4, List.getElem?_set_ne (Ne.symm hn), hh3, get_lt hj]
  have t4 : h4[tid]? = some (.row 3 [.agg [.own cid 0 C.length C.length, .own sid 0 C.length C.length, .own h.length 0 (Os.length + 1) (Os.length + 1)]]) := by rw [hh4, List.getElem?_set_self (by rw [hh3]; simp; omega)]
  have o4 : h4[h.length]? = some (.row 1 (ys ++ [.own (h.length + 1) 0 C.length C.length])) := by rw [hh4, List.getElem?_set_ne (by omega), hh3]; simp
  have b4 : h4[h.length + 1]? = some (.row 1 (C.map en)) := by rw [hh4, List.getElem?_set_ne (by omega), hh3]; simp
  have run : acw M.C n_ref05_Trail_Save [.ptr tid 0 0 1] h = some (.ret (iv Os.length), h4) := by
    have w1 : IntKind.i64.wrap (Os.length : Int) = (Os.length : Int) := wrap64 (by omega) (by omega)
    have at0 := a.t
    have k1' := k1
    simp at k1' k3
    rw [acw_hm (hKC _ _ T_ref05_Trail_Save) rfl]
    by_cases c : C = []
    · subst c
      have s2 : src (h ++ [Ob.row 1 ys, Ob.row 1 []]) (.own cid 0 0 0) = some (1, []) := by
        have := ca [Ob.row 1 ys, Ob.row 1 []]
        simp [src, elems, rowOf, this]
      have k2 := app_none (h := h ++ [Ob.row 1 ys, Ob.row 1 []]) (id := h.length + 1) (k := 0) (b := 8) (xs := []) (by simp) rfl s2
      simp at k2 k3 u4 at0 t4 o4
      simp [runW_fin, F_ref05_Trail_Save, i_ref05_Trail_Save, at0, ta, ca, oa, k1', k2, k3, d1, d2, f1, f2, mle, m0, m1, m2, m3, m4, m5, m6, m7, m8, m9, m10, m11, m12, m13, m14, m15, m16, m17, ltid, lcid, loid, u4, t4, o4, w1, lys]
    · have s2 : src (h ++ [Ob.row 1 ys, Ob.row 1 []]) (.own cid 0 C.length C.length) = some (1, C.map en) := by
        have := ca [Ob.row 1 ys, Ob.row 1 []]
        simp [src, elems, rowOf, this]
        exact List.take_of_length_le (by simp)
      have k2 := app_gen (h := h ++ [Ob.row 1 ys, Ob.row 1 []]) (id := h.length + 1) (k := 0) (b := 8) (xs := []) (by simp) rfl s2 (by simpa using c) (n := C.length) (by simp) (by omega) (by omega)
      simp at k2
      simp [runW_fin, F_ref05_Trail_Save, i_ref05_Trail_Save, at0, ta, ca, oa, k1', k2, k3, d1, d2, f1, f2, mle, m0, m1, m2, m3, m4, m5, m6, m7, m8, m9, m10, m11, m12, m13, m14, m15, m16, m17, ltid, lcid, loid, u4, t4, o4, w1, lys]
  refine ⟨h4, pfoot tid cid sid h.length ((h.length + 1) :: bs), run, ⟨cid, sid, h.length, ys ++ [.own (h.length + 1) 0 C.length C.length], (h.length + 1) :: bs, ⟨⟨?_, ?_, ?_, a.n1, a.n2, a.n3, a.sl⟩, o4, ?_, ⟨b4, rfl, ?_⟩, by omega, by omega, by omega, ?_, ?_, ?_, by simp⟩, rfl⟩, ⟨by omega, fun j hj hn => ?_, fun j hj => ?_, by omega⟩⟩
  · rw [t4]; simp [lys]
  · rw [e4 cid lcid (Ne.symm a.n1)]; exact a.c
  · rw [e4 sid lsid (Ne.symm a.n2)]; exact a.s
  · rw [List.take_of_length_le (by simp [lys]), hys, x]; simp
  · exact z.keep fun j hj => e4 j (z.lt j hj) fun q => bt (q ▸ hj)
  · simp only [List.mem_cons, not_or]; exact ⟨by omega, bc⟩
  · simp only [List.mem_cons, not_or]; exact ⟨by omega, b2⟩
  · simp only [List.mem_cons, not_or]; exact ⟨by omega, bt⟩
  · simp only [pfoot, List.mem_cons, not_or] at hn
    exact e4 j hj hn.1
  · simp only [pfoot, List.mem_cons] at hj ⊢
    rcases hj with q | q | q | q | q | q
    · exact .inl (.inl q)
    · exact .inl (.inr (.inl q))
    · exact .inl (.inr (.inr (.inl q)))
    · exact .inr (by omega)
    · exact .inr (by omega)
    · exact .inl (.inr (.inr (.inr (.inr q))))
theorem undoNo {h : List Ob} {tid : Nat} {F : List Nat} {B C S : List Int} (t : PR h tid F C S [B]) : acw M.C n_ref05_Trail_Undo [.ptr tid 0 0 1] h = some (.ret (iv 9), h) := by
  obtain ⟨cid, sid, oid, xs, bs, t, rfl⟩ := t
  obtain ⟨a, o, x, z, oc, os, ot, bc, b2, bt, ne⟩ := t
  have lx : 1 ≤ xs.length := by
    have := congrArg List.length x
    have hz := z.len
    simp at this hz
    omega
  have a1 := a.t
  simp at a1
  rw [acw_hm (hKC _ _ T_ref05_Trail_Undo) rfl]
  simp [runW_fin, F_ref05_Trail_Undo, i_ref05_Trail_Undo, a1, o, lx]
end Go.RR.TP
set_option linter.unusedVariables false
set_option linter.unusedSimpArgs false
set_option maxRecDepth 100000
set_option maxHeartbeats 4000000
namespace Go.RR.M
/-- a loop that goes through two lists at once -/
theorem pair_loop {C : Cx} {b : IR} {α : Type} [DecidableEq α] (l m : List α) (hlm : l.length = m.length) (fr : Nat → Fr) (hp : List Ob → Prop) (e : Rs → List Ob → Rs) (fe : Fr) (rs : Fr)
    (he : ∀ h, hp h → evw C y0 b (fr l.length) h = some (.ext 0, fe, h))
    (h1 : ∀ i (hi : i < l.length) (hi' : i < m.length) h, hp h → ∃ h', hp h' ∧ evw C y0 b (fr i) h = some (if l[i] = m[i] then (.nrm, fr (i + 1), h') else (.ret, rs, h'))) :
    ∀ (d i : Nat) (h : List Ob), i + d = l.length → hp h → ∃ h', hp h' ∧ evw C y0 (.loop b) (fr i) h = some (if l.drop i = m.drop i then (.ext 0, fe, h') else (.ret, rs, h')) := by
  intro d
  induction d with
  | zero =>
    intro i h hi hh
    have : i = l.length := by omega
    subst this
    refine ⟨h, hh, ?_⟩
    rw [w_loop, he h hh, List.drop_length, List.drop_eq_nil_of_le (by omega : m.length ≤ l.length)]
    rfl
  | succ d ih =>
    intro i h hi hh
    have hlt : i < l.length := by omega
    have hlt' : i < m.length := by omega
    obtain ⟨h2, g2, e2⟩ := h1 i hlt hlt' h hh
    rw [w_loop, e2, List.drop_eq_getElem_cons hlt, List.drop_eq_getElem_cons hlt']
    by_cases c : l[i] = m[i]
    · obtain ⟨h3, g3, e3⟩ := ih (i + 1) h2 (by omega) g2
      refine ⟨h3, g3, ?_⟩
      simp only [c, if_true, nxt_nrm, e3, List.cons.injEq, true_and]
    · refine ⟨h2, g2, ?_⟩
      simp only [c, if_false, nxt_ret, List.cons.injEq, false_and]
theorem ref02_same (l m : List Int) (hl : l.length ≤ 4611686018427387904) (h : List Ob) : acw C n_ref02_Same [intsV l, intsV m] h = some (.ret (.bool (decide (l = m))), h) := by
  refine acw_pure (h' := []) (v := .bool (decide (l = m))) (CT T_ref02_Same) rfl rfl ?_ rfl (by simp)
  by_cases hlm : l.length = m.length
  · obtain ⟨h', hh, hloop⟩ := pair_loop (C := C) (b := b_ref02_Same_0) l m hlm (fun i => [(0, intsV l), (1, intsV m), (5, iv i)]) (fun h => h = []) (fun r _ => r) [(0, intsV l), (1, intsV m), (5, iv l.length), (14, .bool false)] [(4, .bool false)] (by
      rintro h rfl
      simp [b_ref02_Same_0]) (by
      rintro i hi hi' h rfl
      have hw := wrap_succ hi (by omega)
      refine ⟨[], rfl, ?_⟩
      by_cases e : l[i] = m[i]
      · simp [b_ref02_Same_0, hi, hi', e, ine, hw]
      · simp [b_ref02_Same_0, hi, hi', e, ine]) l.length 0 [] (by omega) rfl
    subst hh
    simp only [List.drop_zero, Int.cast_ofNat_Int] at hloop
    have hloop : evw C y0 i_ref02_Same_l0 _ _ = _ := hloop
    by_cases hb : l = m
    · simp only [hb, if_true] at hloop
      simp [runW_fin, F_ref02_Same, i_ref02_Same, hb, hloop]
    · simp only [hb, if_false] at hloop
      simp [runW_fin, F_ref02_Same, i_ref02_Same, hb, hloop, hlm]
  · have h2 : ¬ ((l.length : Int) = m.length) := by omega
    have h4 : ¬ (l = m) := fun e => hlm (by rw [e])
    simp [runW_fin, F_ref02_Same, i_ref02_Same, h2, h4, ine]
end Go.RR.M
namespace Go.RR.TI
open Go Go.RR Go.RR.M
structure St where
  C : List Int
  S : List Int
  Os : List (List Int)
/-- an act: what is answered, what is left -/
def act (st : St) (d i x : Int) : (Int × Int) × St :=
  if d = 0 then (if 0 ≤ i ∧ i < st.C.length then ((0, 0), ⟨st.C.set i.toNat x, putS st.C st.S i.toNat x, st.Os⟩) else ((1, 0), st))
  else if d = 1 then ((0, st.Os.length), ⟨st.C, st.S, st.C :: st.Os⟩)
  else if d = 2 then (match st.Os with
    | B :: A :: r => ((0, 0), ⟨B, bump st.C B st.S, A :: r⟩)
    | _ => ((9, 0), st))
  else ((0, 0), st)
structure Bd (k : Nat) (st : St) : Prop where
  s : ∀ s ∈ st.S, 0 ≤ s ∧ s ≤ k
  o : st.Os.length ≤ k + 1
theorem Bd.mono {k m : Nat} {st : St} (b : Bd k st) (h : k ≤ m) : Bd m st := ⟨fun s hs => by have := b.s s hs; omega, by have := b.o; omega⟩
theorem Bd.act {k : Nat} {st : St} (b : Bd k st) (d i x : Int) : Bd (k + 1) (act st d i x).2 := by
  unfold TI.act
  split
  · split
    · refine ⟨fun s hs => ?_, by have := b.o; simp only; omega⟩
      simp only at hs
      unfold putS at hs
      split at hs
      · have := b.s s hs; omega
      · rcases List.mem_or_eq_of_mem_set hs with q | q
        · have := b.s s q; omega
        · rw [q, List.getD_eq_getElem?_getD]
          cases e : st.S[i.toNat]? with
          | none => simp; omega
          | some z =>
            have := b.s z (List.mem_of_getElem? e)
            simp; omega
    · exact b.mono (by omega)
  · split
    · exact ⟨fun s hs => by have := b.s s hs; omega, by have := b.o; simp; omega⟩
    · split
      · split
        · rename_i B A r e
          refine ⟨fun s hs => ?_, by have := b.o; rw [e] at this; simp at this ⊢; omega⟩
          obtain ⟨j, hj, rfl⟩ := List.mem_iff_getElem.1 hs
          have e2 := bump_get (C := st.C) (B := B) (S := st.S) (i := j)
          simp only [bump_len] at hj
          rw [List.getElem?_eq_getElem (by rw [bump_len]; exact hj), List.getElem?_eq_getElem hj] at e2
          have e3 : (bump st.C B st.S)[j] = st.S[j] + (if st.C[j]? = B[j]? then 0 else 1) := Option.some.inj e2
          have := b.s _ (List.getElem_mem hj)
          show 0 ≤ (bump st.C B st.S)[j] ∧ (bump st.C B st.S)[j] ≤ _
          rw [e3]
          split <;> omega
        · exact b.mono (by omega)
      · exact b.mono (by omega)
theorem act_len {st : St} {d i x : Int} (h : ∀ B ∈ st.Os, B.length = st.C.length) : (act st d i x).2.C.length = st.C.length := by
  unfold act
  split
  · split <;> simp
  · split
    · rfl
    · split
      · split
        · rename_i B A r e
          exact h B (by rw [e]; simp)
        · rfl
      · rfl
theorem Mv.up {n m : Nat} {h h' : List Ob} {F F' : List Nat} (a : Mv n h h' F F') (k : n ≤ m) : Mv m h h' F F' := ⟨a.l, a.k, a.f, by have := a.u; omega⟩
theorem doT {h : List Ob} {tid : Nat} {F : List Nat} {st : St} (t : TR h tid F st.C st.S st.Os) {k : Nat} (b : Bd k st) (hk : k ≤ 99999) (d i x : Int) :
    ∃ h' F', acw M.C n_law05_do [.ptr tid 0 0 1, .agg [iv d, iv i, iv x]] h = some (.ret (.tup [iv (act st d i x).1.1, iv (act st d i x).1.2]), h') ∧ TR h' tid F' (act st d i x).2.C (act st d i x).2.S (act st d i x).2.Os ∧ Mv 4 h h' F F' := by
  obtain ⟨C, S, Os⟩ := st
  have hS : ∀ s ∈ S, 0 ≤ s ∧ s ≤ 999999 := fun s hs => by have := b.s s hs; omega
  have hO := b.o
  simp only at t hO
  obtain ⟨h1, hh1⟩ : ∃ h1, h1 = h ++ [Ob.row 3 [.agg [iv d, iv i, iv x]]] := ⟨_, rfl⟩
  have t1 : TR h1 tid F C S Os := t.keep fun j hj => by rw [hh1, get_lt (t.lt j hj)]
  have mv : Mv 1 h h1 F F := ⟨by rw [hh1]; simp, fun j hj _ => by rw [hh1, get_lt hj], fun j hj => .inl hj, by rw [hh1]; simp⟩
  have bx : h1[h.length]? = some (.row 3 [.agg [iv d, iv i, iv x]]) := by rw [hh1]; simp
  have hne : tid ≠ h.length := by
    have := t.lt tid (by obtain ⟨_, _, _, _, _, _, rfl⟩ := t; simp [foot])
    omega
  have run : ∀ r, runB (evw M.C y0) F_law05_do [.ptr tid 0 0 1, .agg [iv d, iv i, iv x]] h = r → acw M.C n_law05_do [.ptr tid 0 0 1, .agg [iv d, iv i, iv x]] h = r := fun r e => by rw [acw_hm (hKC _ _ T_law05_do) rfl]; exact e
  unfold act
  simp only
  by_cases c0 : d = 0
  · subst c0
    rw [if_pos rfl]
    by_cases c : 0 ≤ i ∧ i < C.length
    · rw [if_pos c]
      obtain ⟨n, rfl⟩ : ∃ n : Nat, i = n := ⟨i.toNat, by omega⟩
      obtain ⟨h2, e2, t2, m2⟩ := setT t1 hS (by omega) n (by omega) x
      refine ⟨h2, F, run _ ?_, t2, (mv.trans m2).up (by omega)⟩
      simp [runW_fin, F_law05_do, i_law05_do, ← hh1, bx, e2]
    · rw [if_neg c]
      have e2 := setNo t1 i x c
      refine ⟨h1, F, run _ ?_, t1, mv.up (by omega)⟩
      simp [runW_fin, F_law05_do, i_law05_do, ← hh1, bx, e2]
  · rw [if_neg c0]
    by_cases c1 : d = 1
    · subst c1
      rw [if_pos rfl]
      obtain ⟨h2, F2, e2, t2, m2⟩ := saveT t1 (by omega)
      refine ⟨h2, F2, run _ ?_, t2, (mv.trans m2).up (by omega)⟩
      simp [runW_fin, F_law05_do, i_law05_do, ← hh1, bx, e2]
    · rw [if_neg c1]
      by_cases c2 : d = 2
      · subst c2
        rw [if_pos rfl]
        match Os, t1, hO with
        | [], t1, hO => exact absurd rfl t1.lens.2.2
        | [B], t1, hO =>
          have e2 := undoNo t1
          refine ⟨h1, F, run _ ?_, t1, mv.up (by omega)⟩
          simp [runW_fin, F_law05_do, i_law05_do, ← hh1, bx, e2]
        | B :: A :: r, t1, hO =>
          obtain ⟨h2, F2, e2, t2, m2⟩ := undoT t1 hS (by simp at hO; omega)
          refine ⟨h2, F2, run _ ?_, t2, (mv.trans m2).up (by omega)⟩
          simp [runW_fin, F_law05_do, i_law05_do, ← hh1, bx, e2]
      · rw [if_neg c2]
        have d0 : (d == 0) = false := by simpa using c0
        have d1 : (d == 1) = false := by simpa using c1
        have d2 : (d == 2) = false := by simpa using c2
        refine ⟨h1, F, run _ ?_, t1, mv.up (by omega)⟩
        simp [runW_fin, F_law05_do, i_law05_do, ← hh1, bx, d0, d1, d2]
end Go.RR.TI
set_option linter.unusedVariables false
set_option linter.unusedSimpArgs false
set_option maxRecDepth 100000
set_option maxHeartbeats 8000000
namespace Go.RR.TD
open Go Go.RR Go.RR.M Go.RR.TI
theorem cells_loop {h : List Ob} {tid rid : Nat} {F G : List Nat} {C S : List Int} {Os : List (List Int)} (t : TR h tid F C S Os) (p : TP.PR h rid G C S Os) (hC : C.length ≤ 40) (v0 v57 v58 v59 : V) :
    ∀ (d i : Nat), i + d = C.length → evw M.C y0 i_law05_TrailDoes_l0 [(0, v0), (5, .ptr tid 0 0 1), (7, .ptr rid 0 0 1), (57, v57), (58, v58), (59, v59), (128, iv C.length), (129, iv i)] h =
      some (.ext 3, [(0, v0), (5, .ptr tid 0 0 1), (7, .ptr rid 0 0 1), (57, v57), (58, v58), (59, v59), (128, iv C.length), (129, iv C.length), (130, .bool false)], h) := by
  intro d
  induction d with
  | zero =>
    intro i hi
    have hiC : i = C.length := by omega
    subst hiC
    rw [r_law05_TrailDoes_0]
    simp [b_law05_TrailDoes_0]
  | succ d ih =>
    intro i hi
    have hiC : i < C.length := by omega
    have ih := ih (i + 1) (by omega)
    simp only [Int.natCast_add, Int.cast_ofNat_Int] at ih
    have hw : IntKind.i64.wrap ((i : Int) + 1) = (i : Int) + 1 := wrap64 (by omega) (by omega)
    have hi4 : (i : Int) < C.length := by omega
    have kg := t.get1 i hiC
    have ks := t.stamp1 i hiC
    obtain ⟨cid, sid, oid, xs, bs, p, rfl⟩ := p
    obtain ⟨a1, a2, a3, n1, n2, n3, sl⟩ := p.a
    have hiS : i < S.length := by omega
    obtain ⟨y, hy⟩ : ∃ y, y = C[i] := ⟨_, rfl⟩
    have h3 : C[i]? = some y := by simp [hiC, hy]
    have h4 : ∀ h : i < C.length, C[i]'h = y := fun _ => hy.symm
    obtain ⟨z, hz⟩ : ∃ z, z = S[i] := ⟨_, rfl⟩
    have h5 : S[i]? = some z := by simp [hiS, hz]
    have h6 : ∀ h : i < S.length, S[i]'h = z := fun _ => hz.symm
    have e6 : S.getD i 0 = z := by rw [List.getD_eq_getElem?_getD, h5]; rfl
    rw [h4] at kg
    rw [e6] at ks
    rw [r_law05_TrailDoes_0, ← ih]
    simp [b_law05_TrailDoes_0, hi4, kg, ks, a1, a2, a3, hiC, hiS, sl, h3, h4, h5, h6, hw, bnA, ine]
end Go.RR.TD
set_option linter.unusedVariables false
set_option linter.unusedSimpArgs false
set_option maxRecDepth 100000
set_option maxHeartbeats 8000000
namespace Go.RR.M
open Go Go.RR
structure Ac where
  d : Int
  i : Int
  x : Int
def acV (a : Ac) : V := .agg [.int .i64 a.d, .int .i64 a.i, .int .i64 a.x]
def acsV (l : List Ac) : V := .sl 3 (l.map acV)
abbrev actSh : Sh := .st (.cons (.int .i64) (.cons (.int .i64) (.cons (.int .i64) .nil)))
theorem has_act {vs : List V} (h : Has actSh vs) : ∃ s : Ac, actSh.mk vs = acV s := by
  unfold actSh at h
  rw [Has] at h
  simp only [HasF] at h
  obtain ⟨a1, b1, rfl, h1, a2, b2, rfl, h2, a3, b3, rfl, h3, rfl⟩ := h
  obtain ⟨n1, rfl, -⟩ := has_int h1
  obtain ⟨n2, rfl, -⟩ := has_int h2
  obtain ⟨n3, rfl, -⟩ := has_int h3
  exact ⟨⟨n1, n2, n3⟩, rfl⟩
theorem has_acts {vs : List V} (h : Has (.sl actSh) vs) : ∃ l : List Ac, vs = [acsV l] ∧ l.length ≤ maxLen :=
  has_sl (enc := acV) (e := actSh) (fun cs hc => has_act hc) h
end Go.RR.M
namespace Go.RR.TD
open Go Go.RR Go.RR.M Go.RR.TI
theorem refP {h : List Ob} {rid : Nat} {G : List Nat} {st : St} (t : TP.PR h rid G st.C st.S st.Os) {k : Nat} (b : Bd k st) (hk : k ≤ 99999) (hC : st.C.length ≤ 1000) (d i x : Int) :
    ∃ h' G', TP.PR h' rid G' (act st d i x).2.C (act st d i x).2.S (act st d i x).2.Os ∧ Mv 3 h h' G G' ∧
      (d = 0 → acw M.C n_ref05_Trail_Set [.ptr rid 0 0 1, iv i, iv x] h = some (.ret (iv (act st d i x).1.1), h') ∧ (act st d i x).1.2 = 0) ∧
      (d = 1 → acw M.C n_ref05_Trail_Save [.ptr rid 0 0 1] h = some (.ret (iv (act st d i x).1.2), h') ∧ (act st d i x).1.1 = 0) ∧
      (d = 2 → acw M.C n_ref05_Trail_Undo [.ptr rid 0 0 1] h = some (.ret (iv (act st d i x).1.1), h') ∧ (act st d i x).1.2 = 0) ∧
      (d ≠ 0 → d ≠ 1 → d ≠ 2 → h' = h ∧ (act st d i x).1 = (0, 0)) := by
  obtain ⟨C, S, Os⟩ := st
  have hS : ∀ s ∈ S, 0 ≤ s ∧ s ≤ 999999 := fun s hs => by have := b.s s hs; omega
  have hO := b.o
  simp only at t hO hC
  unfold act
  simp only
  by_cases c0 : d = 0
  · subst c0
    rw [if_pos rfl]
    by_cases c : 0 ≤ i ∧ i < C.length
    · rw [if_pos c]
      obtain ⟨n, rfl⟩ : ∃ n : Nat, i = n := ⟨i.toNat, by omega⟩
      obtain ⟨h2, e2, t2, m2⟩ := TP.setP t hS n (by omega) x
      exact ⟨h2, G, t2, m2.up (by omega), fun _ => ⟨e2, rfl⟩, fun q => by simp at q, fun q => by simp at q, fun q => absurd rfl q⟩
    · rw [if_neg c]
      exact ⟨h, G, t, Mv.refl.up (by omega), fun _ => ⟨TP.setNo t i x c, rfl⟩, fun q => by simp at q, fun q => by simp at q, fun q => absurd rfl q⟩
  · rw [if_neg c0]
    by_cases c1 : d = 1
    · subst c1
      rw [if_pos rfl]
      obtain ⟨h2, F2, e2, t2, m2⟩ := TP.saveP t (by omega) hC
      exact ⟨h2, F2, t2, m2.up (by omega), fun q => by simp at q, fun _ => ⟨e2, rfl⟩, fun q => by simp at q, fun _ q => absurd rfl q⟩
    · rw [if_neg c1]
      by_cases c2 : d = 2
      · subst c2
        rw [if_pos rfl]
        match Os, t, hO with
        | [], t, hO => obtain ⟨_, _, _, _, _, t, _⟩ := t; exact absurd rfl t.ne
        | [B], t, hO =>
          exact ⟨h, G, t, Mv.refl.up (by omega), fun q => by simp at q, fun q => by simp at q, fun _ => ⟨TP.undoNo t, rfl⟩, fun _ _ q => absurd rfl q⟩
        | B :: A :: r, t, hO =>
          obtain ⟨h2, F2, e2, t2, m2⟩ := TP.undoP t hS (by simp at hO; omega) hC
          exact ⟨h2, F2, t2, m2.up (by omega), fun q => by simp at q, fun q => by simp at q, fun _ => ⟨e2, rfl⟩, fun _ _ q => absurd rfl q⟩
      · rw [if_neg c2]
        exact ⟨h, G, t, Mv.refl.up (by omega), fun q => absurd q c0, fun q => absurd q c1, fun q => absurd q c2, fun _ _ _ => ⟨rfl, rfl⟩⟩
end Go.RR.TD
set_option linter.unusedVariables false
set_option linter.unusedSimpArgs false
set_option maxRecDepth 100000
set_option maxHeartbeats 16000000
namespace Go.RR.TD
open Go Go.RR Go.RR.M Go.RR.TI
theorem Mv.app {n m : Nat} {h h' l : List Ob} {F F' : List Nat} (a : Mv n h h' F F') (k : l.length ≤ m) : Mv (n + m) h (h' ++ l) F F' :=
  ⟨by simp; exact Nat.le_trans a.l (Nat.le_add_right _ _), fun j hj hn => by rw [get_lt (Nat.lt_of_lt_of_le hj a.l)]; exact a.k j hj hn, a.f, by have := a.u; simp; omega⟩
/-- a list in memory freezes -/
theorem frz_accV {h : List Ob} {id : Nat} {ks : List Int} (e : ks = [] ∨ h[id]? = some (.row 1 (iL ks))) (k : Nat) : frz h (k + 2) (accV 1 id (iL ks)) = some (intsV ks) := by
  by_cases c : ks = []
  · subst c
    rfl
  · have e := e.resolve_left c
    have : accV 1 id (iL ks) = .own id 0 ks.length ks.length := by simp [accV, c]
    rw [this]
    exact frz_own_ints e rfl k
/-- what both tell at the end of an act: all that they hold -/
structure Bo (h : List Ob) (tid rid : Nat) (F G : List Nat) (st : St) : Prop where
  t : TR h tid F st.C st.S st.Os
  p : TP.PR h rid G st.C st.S st.Os
  d : ∀ j ∈ F, j ∉ G
theorem Bo.more {h l : List Ob} {tid rid : Nat} {F G : List Nat} {st : St} (b : Bo h tid rid F G st) : Bo (h ++ l) tid rid F G st :=
  ⟨b.t.keep fun j hj => get_lt (b.t.lt j hj), b.p.keep fun j hj => get_lt (b.p.lt j hj), b.d⟩
theorem acc_more {z : Nat} {h : List Ob} {xs : List V} {o : Ob} : ∃ l, accH z (h ++ [o]) xs = h ++ l ∧ l.length ≤ 2 := by
  unfold accH
  split
  · exact ⟨_, rfl, by simp⟩
  · exact ⟨[o, .row z xs], by simp, by simp⟩
/-- one act, on both -/
theorem both {h : List Ob} {tid rid : Nat} {F G : List Nat} {st : St} (b : Bo h tid rid F G st) {k : Nat} (bd : Bd k st) (hk : k ≤ 99999) (hC : st.C.length ≤ 1000) (d i x : Int) :
    ∃ hB hC' F1 G1, acw M.C n_law05_do [.ptr tid 0 0 1, .agg [iv d, iv i, iv x]] (h ++ [Ob.row 3 [.agg [iv d, iv i, iv x]]]) = some (.ret (.tup [iv (act st d i x).1.1, iv (act st d i x).1.2]), hB) ∧ hB[h.length]? = some (Ob.row 3 [.agg [iv d, iv i, iv x]]) ∧
      Bo hC' tid rid F1 G1 (act st d i x).2 ∧ hC'.length ≤ h.length + 8 ∧
      (d = 0 → acw M.C n_ref05_Trail_Set [.ptr rid 0 0 1, iv i, iv x] hB = some (.ret (iv (act st d i x).1.1), hC') ∧ (act st d i x).1.2 = 0) ∧
      (d = 1 → acw M.C n_ref05_Trail_Save [.ptr rid 0 0 1] hB = some (.ret (iv (act st d i x).1.2), hC') ∧ (act st d i x).1.1 = 0) ∧
      (d = 2 → acw M.C n_ref05_Trail_Undo [.ptr rid 0 0 1] hB = some (.ret (iv (act st d i x).1.1), hC') ∧ (act st d i x).1.2 = 0) ∧
      (d ≠ 0 → d ≠ 1 → d ≠ 2 → hC' = hB ∧ (act st d i x).1 = (0, 0)) := by
  have b1 : Bo (h ++ [Ob.row 3 [.agg [iv d, iv i, iv x]]]) tid rid F G st := b.more
  obtain ⟨hB, F1, e1, t1, m1⟩ := doT b1.t bd hk d i x
  have hlen : (h ++ [Ob.row 3 [.agg [iv d, iv i, iv x]]]).length = h.length + 1 := by simp
  have mk := m1.k
  have ml := m1.l
  have mu := m1.u
  have mf := m1.f
  rw [hlen] at mk ml mu mf
  have hpB : TP.PR hB rid G st.C st.S st.Os := b1.p.keep fun j hj => by
    have := b.p.lt j hj
    exact mk j (by omega) fun q => b.d j q hj
  have hbox : hB[h.length]? = some (Ob.row 3 [.agg [iv d, iv i, iv x]]) := by
    rw [mk h.length (by omega) fun q => by have := b.t.lt _ q; omega]
    simp
  obtain ⟨hC', G1, p2, m2, r0, r1, r2, r3⟩ := refP hpB bd hk hC d i x
  have t1lt := t1.lt
  have dj : ∀ j ∈ F1, j ∉ G := fun j hj hg => by
    rcases mf j hj with q | q
    · exact b.d j q hg
    · have := b.p.lt j hg; omega
  refine ⟨hB, hC', F1, G1, e1, hbox, ⟨t1.keep fun j hj => m2.k j (t1lt j hj) (dj j hj), p2, fun j hj hg => ?_⟩, by have := m2.u; omega, r0, r1, r2, r3⟩
  rcases m2.f j hg with q | q
  · exact dj j hj q
  · have := t1lt j hj; omega
theorem act_os {h : List Ob} {tid rid : Nat} {F G : List Nat} {st : St} (b : Bo h tid rid F G st) : ∃ B r, st.Os = B :: r := by
  have := b.t.lens.2.2
  cases e : st.Os with
  | nil => exact absurd e this
  | cons B r => exact ⟨B, r, rfl⟩
theorem acts_step {h : List Ob} {tid rid : Nat} {F G : List Nat} {st : St} (b : Bo h tid rid F G st) {k : Nat} (bd : Bd k st) (hk : k ≤ 150) (hC : st.C.length ≤ 40) (hl : h.length ≤ 20 + 11 * k) (l : List Ac) (i : Nat) (hi : i < l.length) (hl2 : l.length ≤ 150) (v0 : V) :
    ∃ h' F' G' st', evw M.C y0 b_law05_TrailDoes_1 [(0, v0), (5, .ptr tid 0 0 1), (7, .ptr rid 0 0 1), (57, acsV l), (58, iv l.length), (59, iv i)] h = some (.nrm, [(0, v0), (5, .ptr tid 0 0 1), (7, .ptr rid 0 0 1), (57, acsV l), (58, iv l.length), (59, iv ((i : Int) + 1))], h') ∧
      Bo h' tid rid F' G' st' ∧ Bd (k + 1) st' ∧ st'.C.length = st.C.length ∧ h'.length ≤ 20 + 11 * (k + 1) := by
  obtain ⟨a, ha⟩ : ∃ a, a = l[i] := ⟨_, rfl⟩
  have h3 : l[i]? = some a := by simp [hi, ha]
  have h4 : ∀ h : i < l.length, l[i]'h = a := fun _ => ha.symm
  obtain ⟨d, ix, x⟩ := a
  obtain ⟨hB, hC', F1, G1, kd, kbox, b2, hlen, r0, r1, r2, r3⟩ := both b bd (by omega) (by omega) d ix x
  have bd2 := bd.act d ix x
  have hC2 := act_len (d := d) (i := ix) (x := x) b.t.lens.2.1
  obtain ⟨st2, hst2⟩ : ∃ st2, st2 = (act st d ix x).2 := ⟨_, rfl⟩
  obtain ⟨e, he⟩ : ∃ e, e = (act st d ix x).1.1 := ⟨_, rfl⟩
  obtain ⟨kk, hkk⟩ : ∃ e, e = (act st d ix x).1.2 := ⟨_, rfl⟩
  have hpair : (act st d ix x).1 = (e, kk) := by rw [he, hkk]
  rw [hpair] at r3
  rw [← he] at kd r0 r1 r2
  rw [← hkk] at kd r0 r1 r2
  rw [← hst2] at b2 bd2 hC2
  clear hpair he hkk hst2 bd
  obtain ⟨B, r, hos⟩ := act_os b2
  obtain ⟨C, S, Os⟩ := st2
  simp only at hos hC2
  subst hos
  have hO := bd2.o
  simp only [List.length_cons] at hO
  have km := b2.t.marks (by simp; omega)
  have kle := b2.t.len
  have kc := b2.t.chg (by omega) (by simp only; omega)
  simp only at km kle kc
  have e1 : (((B :: r).length : Nat) : Int) - 1 = (r.length : Int) := by simp
  rw [e1] at km
  obtain ⟨hD, hhD⟩ : ∃ hD, hD = accH 1 (hC' ++ [.dead]) (iL (chg C B)) := ⟨_, rfl⟩
  obtain ⟨l1, el1, ll1⟩ := acc_more (z := 1) (h := hC') (xs := iL (chg C B)) (o := .dead)
  have hD2 : hD = hC' ++ l1 := by rw [hhD, el1]
  have bD : Bo hD tid rid F1 G1 ⟨C, S, B :: r⟩ := by rw [hD2]; exact b2.more
  have kp := TP.chgP bD.p (by omega) (by show C.length ≤ 1000; omega)
  simp only at kp
  rw [← hhD] at kc
  obtain ⟨hE, hhE⟩ : ∃ hE, hE = hD ++ [Ob.row 1 (iL (chg C B))] := ⟨_, rfl⟩
  have bE : Bo hE tid rid F1 G1 ⟨C, S, B :: r⟩ := by rw [hhE]; exact bD.more
  rw [← hhE] at kp
  have lenD : hD.length ≤ hC'.length + 2 := by rw [hD2]; simp; omega
  have lenE : hE.length ≤ hC'.length + 3 := by rw [hhE]; simp; omega
  have lenD2 : hC'.length ≤ hD.length := by rw [hD2]; simp
  have lenE2 : hE.length = hD.length + 1 := by rw [hhE]; simp
  have hE1 : hE[hD.length]? = some (.row 1 (iL (chg C B))) := by rw [hhE]; simp
  have hE2 : chg C B = [] ∨ hE[hC'.length + 1]? = some (.row 1 (iL (chg C B))) := by
    by_cases c : chg C B = []
    · exact .inl c
    · refine .inr ?_
      rw [hhE]
      refine get_some ?_
      rw [hhD]
      simp [accH, c]
  have take : ∀ j, j < 4096 → (hE.take 4096)[j]? = hE[j]? := fun j hj => List.getElem?_take_of_lt hj
  have kS : ∀ rr, dq false rr (crw M.C y0) n_ref02_Same [accV 1 (hC'.length + 1) (iL (chg C B)), .own hD.length 0 (chg C B).length (chg C B).length] hE = some (.ret (.bool true), hE) := fun rr => by
    have hc := chg_len (C := C) (B := B)
    have hks := ref02_same (chg C B) (chg C B) (by omega) []
    rw [decide_eq_true rfl] at hks
    refine dq_frz (a2 := [intsV (chg C B), intsV (chg C B)]) ?_ ?_ rfl hks rfl rfl rr
    · have q1 := frz_accV (h := hE.take 4096) (id := hC'.length + 1) (ks := chg C B) (by rw [take _ (by omega)]; exact hE2) 10
      have q2 := frz_own_ints (h := hE.take 4096) (id := hD.length) (n := (chg C B).length) (l := chg C B) (by rw [take _ (by omega)]; exact hE1) rfl 10
      show mapO (frz (hE.take 4096) 12) _ = _
      simp only [mapO, q1, q2]
    · simp [dataL]
  have kcell := cells_loop bE.t bE.p (by simp only; omega) v0 (acsV l) (iv l.length) (iv i) C.length 0 (by simp)
  simp only [Int.cast_ofNat_Int] at kcell
  have hw : IntKind.i64.wrap ((i : Int) + 1) = (i : Int) + 1 := wrap64 (by omega) (by omega)
  have hi4 : (i : Int) < l.length := by omega
  have hw2 : IntKind.i64.wrap (r.length : Int) = (r.length : Int) := wrap64 (by omega) (by omega)
  refine ⟨hE, F1, G1, ⟨C, S, B :: r⟩, ?_, bE, bd2, hC2, by omega⟩
  have p3 := b2.p
  obtain ⟨cid, sid, oid, xs, bs, p3, -⟩ := p3
  obtain ⟨a1, a2, a3, n1, n2, n3, sl⟩ := p3.a
  have o1 := p3.o
  have lx : r.length + 1 ≤ xs.length := by
    have q1 := congrArg List.length p3.x
    have q2 := p3.z.len
    simp at q1 q2
    omega
  have f1 : acsV l = .sl 3 (l.map acV) := rfl
  have f2 : acV ⟨d, ix, x⟩ = .agg [iv d, iv ix, iv x] := rfl
  simp only at a1 a2 a3 kcell
  have hE3 : hE = hC' ++ (l1 ++ [Ob.row 1 (iL (chg C B))]) := by rw [hhE, hD2, List.append_assoc]
  have aE1 := get_some (l := l1 ++ [Ob.row 1 (iL (chg C B))]) a1
  have aE2 := get_some (l := l1 ++ [Ob.row 1 (iL (chg C B))]) a2
  rw [← hE3] at aE1 aE2
  have kcell := kcell
  rw [f1] at kcell
  by_cases c0 : d = 0
  · subst c0
    obtain ⟨r0, rfl⟩ := r0 rfl
    clear r1 r2 r3
    simp [b_law05_TrailDoes_1, f1, f2, hi, hi4, h3, h4, kd, kbox, r0, km, kle, kc, kp, kS, kcell, a1, a2, a3, aE1, aE2, o1, lx, hw, hw2, ine]
  · by_cases c1 : d = 1
    · subst c1
      obtain ⟨r1, rfl⟩ := r1 rfl
      clear r0 r2 r3
      simp [b_law05_TrailDoes_1, f1, f2, hi, hi4, h3, h4, kd, kbox, r1, km, kle, kc, kp, kS, kcell, a1, a2, a3, aE1, aE2, o1, lx, hw, hw2, ine]
    · by_cases c2 : d = 2
      · subst c2
        obtain ⟨r2, rfl⟩ := r2 rfl
        clear r0 r1 r3
        simp [b_law05_TrailDoes_1, f1, f2, hi, hi4, h3, h4, kd, kbox, r2, km, kle, kc, kp, kS, kcell, a1, a2, a3, aE1, aE2, o1, lx, hw, hw2, ine]
      · obtain ⟨rfl, r4⟩ := r3 c0 c1 c2
        simp only [Prod.mk.injEq] at r4
        obtain ⟨rfl, rfl⟩ := r4
        have d0 : (d == 0) = false := by simpa using c0
        have d1 : (d == 1) = false := by simpa using c1
        have d2 : (d == 2) = false := by simpa using c2
        clear r0 r1 r2 r3
        simp [b_law05_TrailDoes_1, f1, f2, hi, hi4, h3, h4, kd, kbox, d0, d1, d2, km, kle, kc, kp, kS, kcell, a1, a2, a3, aE1, aE2, o1, lx, hw, hw2, ine]
end Go.RR.TD
set_option linter.unusedVariables false
set_option linter.unusedSimpArgs false
set_option maxRecDepth 100000
set_option maxHeartbeats 16000000
namespace Go.RR.TD
open Go Go.RR Go.RR.M Go.RR.TI
theorem acts_loop (l : List Ac) (hl2 : l.length ≤ 150) (v0 : V) (n tid rid : Nat) (hn : n ≤ 40) :
    ∀ (d i : Nat) (h : List Ob) (F G : List Nat) (st : St), i + d = l.length → Bo h tid rid F G st → Bd i st → st.C.length = n → h.length ≤ 20 + 11 * i →
      ∃ h' F' G' st', evw M.C y0 i_law05_TrailDoes_l1 [(0, v0), (5, .ptr tid 0 0 1), (7, .ptr rid 0 0 1), (57, acsV l), (58, iv l.length), (59, iv i)] h = some (.ext 0, [(0, v0), (5, .ptr tid 0 0 1), (7, .ptr rid 0 0 1), (57, acsV l), (58, iv l.length), (59, iv l.length), (60, .bool false)], h') ∧
        Bo h' tid rid F' G' st' ∧ st'.C.length = n := by
  intro d
  induction d with
  | zero =>
    intro i h F G st hi b bd hC hl
    have : i = l.length := by omega
    subst this
    refine ⟨h, F, G, st, ?_, b, hC⟩
    rw [r_law05_TrailDoes_1]
    simp [b_law05_TrailDoes_1]
  | succ d ih =>
    intro i h F G st hi b bd hC hl
    obtain ⟨h1, F1, G1, st1, e1, b1, bd1, hC1, hl1⟩ := acts_step b bd (by omega) (by omega) hl l i (by omega) hl2 v0
    obtain ⟨h2, F2, G2, st2, e2, b2, hC2⟩ := ih (i + 1) h1 F1 G1 st1 (by omega) b1 bd1 (by omega) hl1
    refine ⟨h2, F2, G2, st2, ?_, b2, hC2⟩
    rw [r_law05_TrailDoes_1, e1]
    simp only [Int.natCast_add, Int.cast_ofNat_Int] at e2
    exact e2
end Go.RR.TD
namespace Go.RR.TI
open Go Go.RR Go.RR.M
theorem newNo (n : Int) (hn : n < 0 ∨ 1000 < n) (h : List Ob) : acw M.C n_trail_New_int [iv n] h = some (.ret (.tup [.nilp, iv 1]), h) := by
  rw [acw_hm (hKC _ _ T_trail_New_int) rfl]
  by_cases c1 : n < 0
  · simp [runW_fin, F_trail_New_int, i_trail_New_int, c1]
  · have c2 : 1000 < n := by omega
    simp [runW_fin, F_trail_New_int, i_trail_New_int, c1, c2]
theorem TR.row {h : List Ob} {tid : Nat} {F : List Nat} {C : List Al} {S : List Int} {Os : List (List Al)} (t : TR h tid F C S Os) : ∃ v, h[tid]? = some (.row 3 [v]) := by
  obtain ⟨cid, sid, oid, xs, Ms, t, rfl⟩ := t
  exact ⟨_, t.a.t⟩
theorem awake (h : List Ob) : acw M.C n_law05_awake [] h = some (.ret (.bool true), h) := by
  obtain ⟨h1, tid, F1, e1, t1, m1⟩ := newT 2 (by omega) []
  have e2 := newNo 1001 (by omega) h1
  have t1 : TR h1 tid F1 [0, 0] [0, 0] [[0, 0]] := t1
  obtain ⟨rv, r1⟩ := t1.row
  obtain ⟨h3, e3, t3, m3⟩ := setT t1 (by simp) (by simp) 0 (by simp) 5
  have t3 : TR h3 tid F1 [5, 0] [1, 0] [[0, 0]] := t3
  obtain ⟨h4, F4, e4, t4, m4⟩ := saveT t3 (by simp)
  obtain ⟨h5, e5, t5, m5⟩ := setT t4 (by simp) (by simp) 0 (by simp) 6
  have t5 : TR h5 tid F4 [6, 0] [2, 0] [[5, 0], [0, 0]] := t5
  obtain ⟨h6, e6, t6, m6⟩ := setT t5 (by simp) (by simp) 0 (by simp) 7
  have t6 : TR h6 tid F4 [7, 0] [3, 0] [[5, 0], [0, 0]] := t6
  have e7 := t6.chg (by simp) (by simp)
  have c7 : chg [7, 0] [5, 0] = [0] := by decide
  rw [c7] at e7
  obtain ⟨h7, hh7⟩ : ∃ h7, h7 = accH 1 (h6 ++ [.dead]) (iL [0]) := ⟨_, rfl⟩
  have hh7' : h7 = h6 ++ [.dead, .row 1 [iv 0]] := by rw [hh7]; simp [accH]
  have t7 : TR h7 tid F4 [7, 0] [3, 0] [[5, 0], [0, 0]] := t6.keep fun j hj => by rw [hh7', get_lt (t6.lt j hj)]
  have v7 : accV 1 (h6.length + 1) (iL [0]) = .own (h6.length + 1) 0 1 1 := by simp [accV]
  rw [← hh7, v7] at e7
  have r7 : h7[h6.length + 1]? = some (.row 1 [iv 0]) := by rw [hh7']; simp
  obtain ⟨h8, F8, e8, t8, m8⟩ := undoT t7 (by simp) (by simp)
  have t8 : TR h8 tid F8 [5, 0] [4, 0] [[0, 0]] := t8
  have e9 := undoNo t8
  have e10 := t8.get1 0 (by simp)
  have e11 := t8.get0 2 (by simp)
  have e12 := t8.stamp1 0 (by simp)
  have e13 := t8.stamp1 1 (by simp)
  have e14 := t8.marks (by simp)
  have e15 := t8.len
  have e16 := setNo t8 2 1 (by simp)
  have r8 : h8[h6.length + 1]? = some (.row 1 [iv 0]) := by
    rw [m8.k _ (by rw [hh7']; simp) fun q => by have := t6.lt _ q; omega]
    exact r7
  have kS : acw M.C n_ref02_Same [.own (h6.length + 1) 0 1 1, intsV [0]] h8 = some (.ret (.bool true), h8) := by
    have hks := ref02_same [0] [0] (by simp) []
    rw [decide_eq_true rfl] at hks
    refine acw_of_frz (CT T_ref02_Same) rfl (a2 := [intsV [0], intsV [0]]) ?_ rfl hks rfl
    have q1 := frz_own_ints (h := h8) (id := h6.length + 1) (n := 1) (l := [0]) r8 rfl 10
    show mapO (frz h8 12) _ = _
    simp only [mapO, q1]
    rfl
  have kbs : bsfL (.int .i64 0) [iv 0] = some (intsV [0]) := rfl
  simp at e10 e11 e12 e13 e14 e15 e16 e4
  refine acw_pure (a2 := []) (v := .bool true) (h' := h8) (CT T_law05_awake) rfl rfl ?_ rfl rfl
  simp at e1 e3 e5 e6
  simp [runW_fin, F_law05_awake, i_law05_awake, r1, e1, e2, e3, e4, e5, e6, e7, e8, e9, e10, e11, e12, e13, e14, e15, e16, kS, kbs]
end Go.RR.TI
set_option linter.unusedVariables false
set_option linter.unusedSimpArgs false
set_option maxRecDepth 100000
set_option maxHeartbeats 16000000
namespace Go.RR.TP
open Go Go.RR Go.RR.M Go.RR.TI
theorem newNo (n : Int) (hn : n < 0 ∨ 1000 < n) (h : List Ob) : acw M.C n_ref05_New [iv n] h = some (.ret (.tup [.nilp, iv 1]), h) := by
  rw [acw_hm (hKC _ _ T_ref05_New) rfl]
  by_cases c1 : n < 0
  · simp [runW_fin, F_ref05_New, i_ref05_New, c1]
  · have c2 : 1000 < n := by omega
    simp [runW_fin, F_ref05_New, i_ref05_New, c1, c2]
theorem PR.row {h : List Ob} {tid : Nat} {F : List Nat} {C S : List Int} {Os : List (List Int)} (t : PR h tid F C S Os) : ∃ v, h[tid]? = some (.row 3 [v]) := by
  obtain ⟨cid, sid, oid, xs, bs, t, rfl⟩ := t
  exact ⟨_, t.a.t⟩
end Go.RR.TP
namespace Go.RR.TD
open Go Go.RR Go.RR.M Go.RR.TI
theorem does (n : Int) (l : List Ac) (hn : I64 n) (h : List Ob) : acw M.C n_law05_TrailDoes [iv n, acsV l] h = some (.ret (.bool true), h) := by
  refine acw_ex (v := .bool true) (CT T_law05_TrailDoes) rfl rfl (fun _ => rfl) (by simp) ?_
  have k0 := awake []
  by_cases c1 : 40 < n ∧ n ≤ 1000
  · exact ⟨[], by simp [runW_fin, F_law05_TrailDoes, i_law05_TrailDoes, k0, c1.1, c1.2]⟩
  by_cases c2 : 150 < l.length
  · have c2' : (150 : Int) < l.length := by omega
    refine ⟨[], ?_⟩
    by_cases c3 : 40 < n
    · have c4 : ¬ n ≤ 1000 := fun q => c1 ⟨c3, q⟩
      simp [runW_fin, F_law05_TrailDoes, i_law05_TrailDoes, k0, c3, c4, acsV, c2, c2']
    · simp [runW_fin, F_law05_TrailDoes, i_law05_TrailDoes, k0, c3, acsV, c2, c2']
  have c2' : ¬ (150 : Int) < l.length := by omega
  by_cases c5 : n < 0 ∨ 1000 < n
  · have e1 := newNo n c5 []
    have e2 := TP.newNo n c5 []
    refine ⟨[], ?_⟩
    by_cases c3 : 40 < n
    · have c4 : ¬ n ≤ 1000 := fun q => c1 ⟨c3, q⟩
      simp [runW_fin, F_law05_TrailDoes, i_law05_TrailDoes, k0, c3, c4, acsV, c2, c2', e1, e2, ine]
    · simp [runW_fin, F_law05_TrailDoes, i_law05_TrailDoes, k0, c3, acsV, c2, c2', e1, e2, ine]
  have c3 : ¬ 40 < n := fun q => c1 ⟨q, by omega⟩
  obtain ⟨m, rfl⟩ : ∃ m : Nat, n = m := ⟨n.toNat, by omega⟩
  obtain ⟨h1, tid, F1, e1, t1, m1⟩ := newT m (by omega) []
  obtain ⟨h2, rid, G1, e2, p2, m2⟩ := TP.newP m (by omega) h1
  have b2 : Bo h2 tid rid F1 G1 ⟨List.replicate m 0, List.replicate m 0, [List.replicate m 0]⟩ := ⟨t1.keep fun j hj => m2.k j (t1.lt j hj) (by simp), p2, fun j hj hg => by
    rcases m2.f j hg with q | q
    · simp at q
    · have := t1.lt j hj; omega⟩
  obtain ⟨rv, r1⟩ := TI.TR.row b2.t
  obtain ⟨rw2, r2⟩ := p2.row
  obtain ⟨h3, F3, G3, st3, e3, b3, hC3⟩ := acts_loop l (by omega) (iv m) m tid rid (by omega) l.length 0 h2 F1 G1 _ (by omega) b2 ⟨fun s hs => by have := List.eq_of_mem_replicate hs; omega, by simp⟩ (by simp) (by have := m1.u; have := m2.u; simp at *; omega)
  have g1 := b3.t.get0 (-1) (by omega)
  have g2 := b3.t.get0 m (by omega)
  have s1 := b3.t.stamp0 (-1) (by omega)
  have s2 := b3.t.stamp0 m (by omega)
  simp only [Int.cast_ofNat_Int] at e3
  refine ⟨h3, ?_⟩
  have f1 : acsV l = .sl 3 (l.map acV) := rfl
  rw [f1] at e3
  simp [runW_fin, F_law05_TrailDoes, i_law05_TrailDoes, k0, c3, c2, c2', e1, e2, r1, r2, e3, g1, g2, s1, s2, ine]
end Go.RR.TD
