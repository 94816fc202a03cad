/- The second reading's table for this seat: the functions that are known by the library's contracts, and those with loops over maps. -/
import Derived.Test.YtkbdlifjhcmgbaaR5
import Derived.Test.YtkbdlifjhcmgbaaRIr
set_option linter.unusedVariables false
set_option linter.unusedSimpArgs false
set_option linter.unusedVariables false
set_option linter.unusedSimpArgs false
set_option maxRecDepth 100000
namespace Go.RR.M
open Go Go.RR
def S (f : Nat) (a : List V) : Option V := none
def H0 (f : Nat) (a : List V) (h : List Ob) : Option (Out × List Ob) :=
  if f = n_slices_Sort_sint_int then sortH a h
  else none
def C0 : Cx := ⟨T, S, H0⟩
def TN1 (f : Nat) : Option FN :=
  if f = n_maps_DeleteFunc_map_int_int_int_int then some F_maps_DeleteFunc_map_int_int_int_int
  else if f = n_maps_DeleteFunc_map_int_string_int_string then some F_maps_DeleteFunc_map_int_string_int_string
  else none
noncomputable def C1 : Cx := ⟨T, S, HN C0 TN1⟩
def TN2 (f : Nat) : Option FN :=
  if f = n_trail_Trail_int_Undo then some F_trail_Trail_int_Undo
  else if f = n_trail_Trail_string_Undo then some F_trail_Trail_string_Undo
  else if f = n_trail_Trail_int_Changed then some F_trail_Trail_int_Changed
  else if f = n_trail_Trail_string_Changed then some F_trail_Trail_string_Changed
  else none
noncomputable def C : Cx := ⟨T, S, HN C1 TN2⟩
theorem CT {f : Nat} {F : F} (h : T f = some F) : C.T f = some F := h
theorem CT1 {f : Nat} {F : F} (h : T f = some F) : C1.T f = some F := h
theorem CT0 {f : Nat} {F : F} (h : T f = some F) : C0.T f = some F := h
end Go.RR.M
set_option linter.unusedVariables false
namespace Go.RR.M
open Go Go.RR
@[simp] theorem mp_cells {i : Nat} : (V.mp i).cells = [.mp i] := rfl
@[simp] theorem mp_und {i : Nat} : (V.mp i).isUnd = false := rfl
@[simp] theorem mp_tup {i : Nat} : (V.mp i).isTup = false := rfl
@[simp] theorem mp_size {i : Nat} : (V.mp i).size = 1 := rfl
@[simp] theorem nmp_size : V.size .nmp = 1 := rfl
theorem o_mkm {nid : Nat} {h : List Ob} : opJ nid h .mkm [] = some (.mp nid, some (nid, .map [] 0)) := rfl
theorem o_lkt {nid id c i : Nat} {h : List Ob} {ks : Option IntKind} {z key v : V} {es : List (V × V × Nat)} (e : h[id]? = some (.map es c)) (k : isKey ks key = true) (f : mfind key es 0 = some (some (i, v))) : opJ nid h (.lku ks z true) [.mp id, key] = some (.tup [v, .bool true], none) := by
  simp [opJ, mapOf, e, k, f, lkr]
theorem o_lkt0 {nid id c : Nat} {h : List Ob} {ks : Option IntKind} {z key : V} {es : List (V × V × Nat)} (e : h[id]? = some (.map es c)) (k : isKey ks key = true) (f : mfind key es 0 = some none) : opJ nid h (.lku ks z true) [.mp id, key] = some (.tup [z, .bool false], none) := by
  simp [opJ, mapOf, e, k, f, lkr]
theorem o_mpu {nid id c : Nat} {h : List Ob} {ks : Option IntKind} {key v : V} {es : List (V × V × Nat)} (e : h[id]? = some (.map es c)) (k : isKey ks key = true) (hv : v.isUnd = false) (hv2 : v.isTup = false) (f : mfind key es 0 = some none) : opJ nid h (.mpu ks) [.mp id, key, v] = some (.und, some (id, .map (es ++ [(key, v, c)]) (c + 1))) := by
  simp [opJ, mapOf, e, k, f, hv, hv2]
theorem o_mdl {nid id c i : Nat} {h : List Ob} {ks : Option IntKind} {key v : V} {es : List (V × V × Nat)} (e : h[id]? = some (.map es c)) (k : isKey ks key = true) (f : mfind key es 0 = some (some (i, v))) : opJ nid h (.mdl ks) [.mp id, key] = some (.tup [], some (id, .map (es.eraseIdx i) c)) := by
  simp [opJ, mapOf, e, k, f]
theorem o_mcl {nid id c : Nat} {h : List Ob} {es : List (V × V × Nat)} (e : h[id]? = some (.map es c)) : opJ nid h .mcl [.mp id] = some (.tup [], some (id, .map [] c)) := by
  simp [opJ, mapOf, e]
end Go.RR.M
set_option linter.unusedVariables false
set_option linter.unusedSimpArgs false
set_option maxRecDepth 100000
set_option maxHeartbeats 4000000
namespace Go.RR.TI
open Go Go.RR Go.RR.M
abbrev Al := Int
abbrev en (x : Al) : V := .int .i64 x
abbrev zA : Al := 0
theorem bnA (a b : Al) : (a != b) = !decide (a = b) := by
  by_cases c : a = b <;> simp [c]
theorem beA (a b : Al) : (a == b) = decide (a = b) := by
  by_cases c : a = b <;> simp [c]
/-- a trail's cells and stamps, as they lie -/
structure TB (h : List Ob) (tid cid sid : Nat) (C : List Al) (S : List Int) (ov : V) : Prop where
  t : h[tid]? = some (.row 3 [.agg [.own cid 0 C.length C.length, .own sid 0 C.length C.length, ov]])
  c : h[cid]? = some (.row 1 (C.map en))
  s : h[sid]? = some (.row 1 (S.map (V.int .i64)))
  n1 : tid ≠ cid
  n2 : tid ≠ sid
  n3 : cid ≠ sid
  sl : S.length = C.length
theorem TB.keep {h h' : List Ob} {tid cid sid : Nat} {C : List Al} {S : List Int} {ov : V} (a : TB h tid cid sid C S ov) (k : ∀ j, j = tid ∨ j = cid ∨ j = sid → h'[j]? = h[j]?) : TB h' tid cid sid C S ov :=
  ⟨by rw [k _ (.inl rfl)]; exact a.t, by rw [k _ (.inr (.inl rfl))]; exact a.c, by rw [k _ (.inr (.inr rfl))]; exact a.s, a.n1, a.n2, a.n3, a.sl⟩
def putS (C : List Al) (S : List Int) (i : Nat) (x : Al) : List Int := if C[i]? = some x then S else S.set i (S.getD i 0 + 1)
theorem putS_len {C : List Al} {S : List Int} {i : Nat} {x : Al} : (putS C S i x).length = S.length := by unfold putS; split <;> simp
variable {K : Cx} (hK : ∀ f F, T f = some F → K.T f = some F)
include hK
theorem there {h : List Ob} {tid cid sid : Nat} {C : List Al} {S : List Int} {ov : V} (a : TB h tid cid sid C S ov) (i : Int) : acw K n_trail_Trail_int_there [.ptr tid 0 0 1, iv i] h = some (.ret (.bool (decide (0 ≤ i) && decide (i < C.length))), h) := by
  obtain ⟨a1, a2, a3, n1, n2, n3, sl⟩ := a
  rw [acw_hm (hK _ _ T_trail_Trail_int_there) rfl]
  by_cases c1 : 0 ≤ i
  · by_cases c2 : i < C.length <;> simp [runW_fin, F_trail_Trail_int_there, i_trail_Trail_int_there, a1, a2, c1, c2]
  · simp [runW_fin, F_trail_Trail_int_there, i_trail_Trail_int_there, a1, a2, c1]
theorem put {h : List Ob} {tid cid sid : Nat} {C : List Al} {S : List Int} {ov : V} (a : TB h tid cid sid C S ov) (i : Nat) (hi : i < C.length) (x : Al) (hS : ∀ s ∈ S, 0 ≤ s ∧ s ≤ 1000000) :
    ∃ h', acw K n_trail_Trail_int_put [.ptr tid 0 0 1, iv i, en x] h = some (.ret (.tup []), h') ∧ TB h' tid cid sid (C.set i x) (putS C S i x) ov ∧ (∀ j, j ≠ cid → j ≠ sid → h'[j]? = h[j]?) ∧ h'.length = h.length := by
  obtain ⟨a1, a2, a3, n1, n2, n3, sl⟩ := a
  have hc := (List.getElem?_eq_some_iff.1 a2).1
  have hs := (List.getElem?_eq_some_iff.1 a3).1
  have hi2 : (i : Int) < C.length := by omega
  obtain ⟨y, hy⟩ : ∃ y, y = C[i] := ⟨_, rfl⟩
  have h3 : C[i]? = some y := by simp [hi, hy]
  have h4 : ∀ h : i < C.length, C[i]'h = y := fun _ => hy.symm
  have his : i < S.length := by omega
  obtain ⟨s, hs0⟩ : ∃ s, s = S[i] := ⟨_, rfl⟩
  have h5 : S[i]? = some s := by simp [his, hs0]
  have h6 : ∀ h : i < S.length, S[i]'h = s := fun _ => hs0.symm
  have hsb := hS s (by rw [hs0]; exact List.getElem_mem his)
  have hgd : S.getD i 0 = s := by rw [List.getD_eq_getElem?_getD, h5]; rfl
  by_cases c : y = x
  · subst c
    refine ⟨h, ?_, ⟨?_, ?_, ?_, n1, n2, n3, ?_⟩, fun _ _ _ => rfl, rfl⟩
    · rw [acw_hm (hK _ _ T_trail_Trail_int_put) rfl]
      simp [runW_fin, F_trail_Trail_int_put, i_trail_Trail_int_put, a1, a2, a3, hi, hi2, h3, h4, bnA]
    · rw [List.length_set]; exact a1
    · rw [hy, List.set_getElem_self]; exact a2
    · unfold putS; rw [if_pos h3]; exact a3
    · rw [List.length_set, putS_len]; exact sl
  · have w1 : IntKind.i64.wrap (s + 1) = s + 1 := wrap64 (by omega) (by omega)
    obtain ⟨h1, hh1⟩ : ∃ h1, h1 = h.set cid (.row 1 ((C.set i x).map en)) := ⟨_, rfl⟩
    obtain ⟨h2, hh2⟩ : ∃ h2, h2 = h1.set sid (.row 1 ((S.set i (s + 1)).map (V.int .i64))) := ⟨_, rfl⟩
    have g1 : h1[tid]? = some (.row 3 [.agg [.own cid 0 C.length C.length, .own sid 0 C.length C.length, ov]]) := by rw [hh1, List.getElem?_set_ne (Ne.symm n1)]; exact a1
    have g2 : h1[sid]? = some (.row 1 (S.map (V.int .i64))) := by rw [hh1, List.getElem?_set_ne n3]; exact a3
    have u1 : wr h (some (cid, .row 1 ((C.map en).set i (en x)))) = h1 := by rw [wr_lt hc, hh1, List.map_set]
    have u2 : wr h1 (some (sid, .row 1 ((S.map (V.int .i64)).set i (.int .i64 (s + 1))))) = h2 := by rw [wr_lt (by rw [hh1, List.length_set]; exact hs), hh2, List.map_set]
    refine ⟨h2, ?_, ⟨?_, ?_, ?_, n1, n2, n3, ?_⟩, fun j k1 k2 => ?_, by rw [hh2, List.length_set, hh1, List.length_set]⟩
    · rw [acw_hm (hK _ _ T_trail_Trail_int_put) rfl]
      simp [runW_fin, F_trail_Trail_int_put, i_trail_Trail_int_put, a1, a2, a3, hi, hi2, h3, h4, his, sl, h5, h6, bnA, c, w1, u1, u2, g1, g2]
    · rw [List.length_set, hh2, List.getElem?_set_ne (Ne.symm n2)]; exact g1
    · rw [hh2, List.getElem?_set_ne (Ne.symm n3), hh1]; simp [hc]
    · rw [hh2]; unfold putS; rw [if_neg (by rw [h3]; simpa using c), hgd]; simp [hh1, hs]
    · rw [List.length_set, putS_len]; exact sl
    · rw [hh2, List.getElem?_set_ne (Ne.symm k2), hh1, List.getElem?_set_ne (Ne.symm k1)]
end Go.RR.TI
set_option linter.unusedVariables false
set_option linter.unusedSimpArgs false
set_option maxRecDepth 100000
set_option maxHeartbeats 4000000
namespace Go.RR.TI
open Go Go.RR Go.RR.M
/-- an entry: a cell, what it had, when it was laid -/
abbrev En := Nat × Al × Nat
def enE (e : En) : V × V × Nat := (iv (e.1 : Int), en e.2.1, e.2.2)
abbrev enL (L : List En) : List (V × V × Nat) := L.map enE
structure EnOK (L : List En) (clk : Nat) : Prop where
  k : (L.map (·.1)).Nodup
  b : (L.map (·.2.2)).Nodup
  c : ∀ e ∈ L, e.2.2 < clk
theorem EnOK.sub {L : List En} {clk : Nat} (a : EnOK L clk) (p : En → Bool) : EnOK (L.filter p) clk :=
  ⟨a.k.sublist (List.filter_sublist.map _), a.b.sublist (List.filter_sublist.map _), fun e he => a.c e (List.mem_filter.1 he).1⟩
theorem mfind_none {i : Nat} : ∀ {L : List En} {n : Nat}, (∀ e ∈ L, e.1 ≠ i) → mfind (iv (i : Int)) (enL L) n = some none
  | [], n, _ => rfl
  | e :: r, n, h => by
    have h1 := h e (by simp)
    have h2 : ((i : Int) == (e.1 : Int)) = false := by simp; omega
    simp only [List.map_cons, enE, mfind, keyEq, if_true, h2]
    exact mfind_none fun x hx => h x (by simp [hx])
theorem mfind_some {i : Nat} : ∀ {L : List En} {n : Nat} {e : En}, (L.map (·.1)).Nodup → e ∈ L → e.1 = i → ∃ j, mfind (iv (i : Int)) (enL L) n = some (some (n + j, en e.2.1)) ∧ L.eraseIdx j = L.filter fun x => decide (x.1 ≠ i)
  | e0 :: r, n, e, hn, he, hi => by
    simp only [List.map_cons] at hn
    obtain ⟨h1, h2⟩ := List.nodup_cons.1 hn
    by_cases c : e0.1 = i
    · have : e = e0 := by
        rcases List.mem_cons.1 he with h | h
        · exact h
        · exact absurd (List.mem_map.2 ⟨e, h, by rw [hi, ← c]⟩) h1
      subst this
      refine ⟨0, by simp [enE, mfind, keyEq, c], ?_⟩
      have hr : ∀ x ∈ r, x.1 ≠ i := fun x hx q => h1 (List.mem_map.2 ⟨x, hx, by rw [q, c]⟩)
      simp only [List.eraseIdx_zero, List.tail_cons]
      rw [List.filter_cons_of_neg (by simp [c]), List.filter_eq_self.2 fun x hx => by simpa using hr x hx]
    · have he' : e ∈ r := by
        rcases List.mem_cons.1 he with h | h
        · exact absurd (by rw [← h]; exact hi) c
        · exact h
      obtain ⟨j, k1, k2⟩ := mfind_some (n := n + 1) h2 he' hi
      have h3 : ((i : Int) == (e0.1 : Int)) = false := by simp; omega
      refine ⟨j + 1, ?_, ?_⟩
      · simp only [List.map_cons, enE, mfind, keyEq, if_true, h3]
        rw [show n + (j + 1) = n + 1 + j by omega]
        exact k1
      · rw [List.eraseIdx_cons_succ, k2, List.filter_cons_of_pos (by simpa using c)]
theorem erase_map {α β : Type} (f : α → β) : ∀ (l : List α) (j : Nat), (l.map f).eraseIdx j = (l.eraseIdx j).map f
  | [], j => by simp
  | x :: r, 0 => by simp
  | x :: r, j + 1 => by simp [erase_map f r j]
theorem enL_map {L M : List En} {j : Nat} (h : L.eraseIdx j = M) : (enL L).eraseIdx j = enL M := by rw [← h]; exact erase_map _ _ _
theorem enL_born {L : List En} : (enL L).map (·.2.2) = L.map (·.2.2) := by simp [enL, enE, List.map_map, Function.comp_def]
variable {K : Cx} (hK : ∀ f F, T f = some F → K.T f = some F)
include hK
theorem getT {h : List Ob} {tid cid sid : Nat} {C : List Al} {S : List Int} {ov : V} (a : TB h tid cid sid C S ov) (i : Nat) (hi : i < C.length) : acw K n_trail_Trail_int_Get [.ptr tid 0 0 1, iv i] h = some (.ret (.tup [en C[i], .bool true]), h) := by
  have kt := there hK a i
  obtain ⟨a1, a2, a3, n1, n2, n3, sl⟩ := a
  have hi2 : (i : Int) < C.length := by omega
  obtain ⟨y, hy⟩ : ∃ y, y = C[i] := ⟨_, rfl⟩
  have h3 : C[i]? = some y := by simp [hi, hy]
  have h4 : ∀ h : i < C.length, C[i]'h = y := fun _ => hy.symm
  rw [acw_hm (hK _ _ T_trail_Trail_int_Get) rfl]
  simp [hi2] at kt
  simp [runW_fin, F_trail_Trail_int_Get, i_trail_Trail_int_Get, kt, a1, a2, hi, hi2, h3, h4]
theorem getF {h : List Ob} {tid cid sid : Nat} {C : List Al} {S : List Int} {ov : V} (a : TB h tid cid sid C S ov) (i : Int) (hi : ¬ (0 ≤ i ∧ i < C.length)) : acw K n_trail_Trail_int_Get [.ptr tid 0 0 1, iv i] h = some (.ret (.tup [en zA, .bool false]), h) := by
  have kt := there hK a i
  have hb : (decide (0 ≤ i) && decide (i < (C.length : Int))) = false := by
    by_cases c : 0 ≤ i <;> simp [c] <;> omega
  rw [hb] at kt
  rw [acw_hm (hK _ _ T_trail_Trail_int_Get) rfl]
  simp [runW_fin, F_trail_Trail_int_Get, i_trail_Trail_int_Get, kt]
theorem stampT {h : List Ob} {tid cid sid : Nat} {C : List Al} {S : List Int} {ov : V} (a : TB h tid cid sid C S ov) (i : Nat) (hi : i < C.length) : acw K n_trail_Trail_int_Stamp [.ptr tid 0 0 1, iv i] h = some (.ret (iv (S.getD i 0)), h) := by
  have kt := there hK a i
  obtain ⟨a1, a2, a3, n1, n2, n3, sl⟩ := a
  have hi2 : (i : Int) < C.length := by omega
  have his : i < S.length := by omega
  obtain ⟨y, hy⟩ : ∃ y, y = S[i] := ⟨_, rfl⟩
  have h3 : S[i]? = some y := by simp [his, hy]
  have h4 : ∀ h : i < S.length, S[i]'h = y := fun _ => hy.symm
  have e : S.getD i 0 = y := by rw [List.getD_eq_getElem?_getD, h3]; rfl
  rw [acw_hm (hK _ _ T_trail_Trail_int_Stamp) rfl, e]
  simp [hi2] at kt
  simp [runW_fin, F_trail_Trail_int_Stamp, i_trail_Trail_int_Stamp, kt, a1, a3, hi, hi2, his, sl, h3, h4]
theorem stampF {h : List Ob} {tid cid sid : Nat} {C : List Al} {S : List Int} {ov : V} (a : TB h tid cid sid C S ov) (i : Int) (hi : ¬ (0 ≤ i ∧ i < C.length)) : acw K n_trail_Trail_int_Stamp [.ptr tid 0 0 1, iv i] h = some (.ret (iv 0), h) := by
  have kt := there hK a i
  have hb : (decide (0 ≤ i) && decide (i < (C.length : Int))) = false := by
    by_cases c : 0 ≤ i <;> simp [c] <;> omega
  rw [hb] at kt
  rw [acw_hm (hK _ _ T_trail_Trail_int_Stamp) rfl]
  simp [runW_fin, F_trail_Trail_int_Stamp, i_trail_Trail_int_Stamp, kt]
theorem marksT {h : List Ob} {tid cid sid oid m tot : Nat} {C : List Al} {S : List Int} {xs : List V} (a : TB h tid cid sid C S (.own oid 0 m tot)) (o : h[oid]? = some (.row 1 xs)) (ht : xs.length = tot) (hm : m ≤ 1000000) : acw K n_trail_Trail_int_Marks [.ptr tid 0 0 1] h = some (.ret (iv ((m : Int) - 1)), h) := by
  obtain ⟨a1, a2, a3, n1, n2, n3, sl⟩ := a
  have w1 : IntKind.i64.wrap ((m : Int) - 1) = (m : Int) - 1 := wrap64 (by omega) (by omega)
  rw [acw_hm (hK _ _ T_trail_Trail_int_Marks) rfl]
  simp [runW_fin, F_trail_Trail_int_Marks, i_trail_Trail_int_Marks, a1, o, ht, w1]
theorem lastT {h : List Ob} {tid cid sid oid m tot mid : Nat} {C : List Al} {S : List Int} {xs : List V} (a : TB h tid cid sid C S (.own oid 0 (m + 1) tot)) (o : h[oid]? = some (.row 1 xs)) (ht : xs.length = tot) (hm : m ≤ 1000000) (hx : xs[m]? = some (.mp mid)) : acw K n_trail_Trail_int_last [.ptr tid 0 0 1] h = some (.ret (.mp mid), h) := by
  obtain ⟨a1, a2, a3, n1, n2, n3, sl⟩ := a
  have w1 : IntKind.i64.wrap (m : Int) = m := wrap64 (by omega) (by omega)
  have hl := (List.getElem?_eq_some_iff.1 hx).1
  have h4 : ∀ h : m < xs.length, xs[m]'h = .mp mid := fun _ => (List.getElem?_eq_some_iff.1 hx).2
  have c1 : m + 1 ≤ tot := by omega
  have c2 : m < tot := by omega
  have c3 : (m : Int) < (m : Int) + 1 := by omega
  rw [acw_hm (hK _ _ T_trail_Trail_int_last) rfl]
  simp [runW_fin, F_trail_Trail_int_last, i_trail_Trail_int_last, a1, o, ht, w1, hx, h4, c1, c2, c3]
theorem carry1 {h : List Ob} {tid cid sid bid : Nat} {C : List Al} {S : List Int} {ov : V} (a : TB h tid cid sid C S ov) (hb : h[bid]? = some (.row 1 [.ptr tid 0 0 1])) (i : Nat) (hi : i < C.length) (x : Al) : acw K n_trail_Trail_int_carry_1 [iv i, en x, .ptr bid 0 0 1] h = some (.ret (.bool (decide (C[i] = x))), h) := by
  obtain ⟨a1, a2, a3, n1, n2, n3, sl⟩ := a
  have hi2 : (i : Int) < C.length := by omega
  obtain ⟨y, hy⟩ : ∃ y, y = C[i] := ⟨_, rfl⟩
  have h3 : C[i]? = some y := by simp [hi, hy]
  have h4 : ∀ h : i < C.length, C[i]'h = y := fun _ => hy.symm
  rw [acw_hm (hK _ _ T_trail_Trail_int_carry_1) rfl]
  simp [runW_fin, F_trail_Trail_int_carry_1, i_trail_Trail_int_carry_1, a1, a2, hb, hi, hi2, h3, h4, beA]
end Go.RR.TI
set_option linter.unusedVariables false
set_option linter.unusedSimpArgs false
set_option maxRecDepth 100000
set_option maxHeartbeats 4000000
namespace Go.RR.TI
open Go Go.RR Go.RR.M
theorem set_end {l : List Ob} {n : Nat} {x y : Ob} (e : l.length = n) : (l ++ [x]).set n y = l ++ [y] := by
  subst e
  simp
theorem set_front {l m : List Ob} {n : Nat} {y : Ob} (e : n < l.length) : (l ++ m).set n y = l.set n y ++ m := by
  rw [List.set_append]
  simp [e]
def left (L : List En) (seen : List Nat) : List En := L.filter fun x => !seen.contains x.2.2
theorem left_nil {L : List En} : left L [] = L := List.filter_eq_self.2 fun x _ => by simp
theorem left_mem {L : List En} {seen : List Nat} {e : En} : e ∈ left L seen ↔ e ∈ L ∧ e.2.2 ∉ seen := by
  unfold left
  rw [List.mem_filter]
  simp
theorem un_left {L : List En} {seen : List Nat} : unseen (enL L) seen = enL (left L seen) := by
  unfold unseen left enL
  rw [List.filter_map]
  rfl
theorem left_step : ∀ {L : List En} {seen : List Nat} {e : En}, (L.map (·.2.2)).Nodup → e ∈ left L seen → (left L (seen ++ [e.2.2])).length + 1 = (left L seen).length
  | [], seen, e, _, he => by simp [left] at he
  | x :: r, seen, e, hn, he => by
    simp only [List.map_cons] at hn
    obtain ⟨h1, h2⟩ := List.nodup_cons.1 hn
    have hsub : ∀ y ∈ r, y.2.2 ≠ x.2.2 := fun y hy q => h1 (List.mem_map.2 ⟨y, hy, q⟩)
    by_cases c : e = x
    · subst c
      have hns := (left_mem.1 he).2
      have k1 : left r (seen ++ [e.2.2]) = left r seen := by
        unfold left
        refine List.filter_congr fun y hy => ?_
        have := hsub y hy
        simp [this]
      have e1 : left (e :: r) (seen ++ [e.2.2]) = left r (seen ++ [e.2.2]) := by unfold left; rw [List.filter_cons_of_neg (by simp)]
      have e2 : left (e :: r) seen = e :: left r seen := by unfold left; rw [List.filter_cons_of_pos (by simpa using hns)]
      rw [e1, e2, k1, List.length_cons]
    · have he' : e ∈ left r seen := by
        rw [left_mem] at he ⊢
        rcases List.mem_cons.1 he.1 with h | h
        · exact absurd h c
        · exact ⟨h, he.2⟩
      have ih := left_step h2 he'
      have hne : x.2.2 ≠ e.2.2 := fun q => h1 (List.mem_map.2 ⟨e, (left_mem.1 he').1, q.symm⟩)
      by_cases d : x.2.2 ∈ seen
      · have e1 : left (x :: r) (seen ++ [e.2.2]) = left r (seen ++ [e.2.2]) := by unfold left; rw [List.filter_cons_of_neg (by simp [d])]
        have e2 : left (x :: r) seen = left r seen := by unfold left; rw [List.filter_cons_of_neg (by simp [d])]
        rw [e1, e2]
        exact ih
      · have e1 : left (x :: r) (seen ++ [e.2.2]) = x :: left r (seen ++ [e.2.2]) := by unfold left; rw [List.filter_cons_of_pos (by simp [d, hne])]
        have e2 : left (x :: r) seen = x :: left r seen := by unfold left; rw [List.filter_cons_of_pos (by simp [d])]
        rw [e1, e2, List.length_cons, List.length_cons]
        omega
/-- what is kept, of what has been seen -/
def kp (C : List Al) (seen : List Nat) (e : En) : Bool := !(seen.contains e.2.2 && decide (C[e.1]? = some e.2.1))
theorem kp_left {C : List Al} {L : List En} {seen : List Nat} : left (L.filter (kp C seen)) seen = left L seen := by
  unfold left
  rw [List.filter_filter]
  refine List.filter_congr fun x _ => ?_
  unfold kp
  cases seen.contains x.2.2 <;> simp
theorem kp_step {C : List Al} {L : List En} {seen : List Nat} {e : En} {clk : Nat} (ok : EnOK L clk) (he : e ∈ left L seen) : L.filter (kp C (seen ++ [e.2.2])) = if C[e.1]? = some e.2.1 then (L.filter (kp C seen)).filter (fun x => decide (x.1 ≠ e.1)) else L.filter (kp C seen) := by
  obtain ⟨h1, h2⟩ := left_mem.1 he
  have inj : ∀ x ∈ L, ∀ y ∈ L, x.2.2 = y.2.2 → x = y := fun x hx y hy q => by
    have := ok.b
    obtain ⟨i, hi, rfl⟩ := List.mem_iff_getElem.1 hx
    obtain ⟨j, hj, rfl⟩ := List.mem_iff_getElem.1 hy
    have hij := (List.getElem_inj (h₀ := by simpa using hi) (h₁ := by simpa using hj) this).1 (by simpa using q)
    subst hij
    rfl
  have injk : ∀ x ∈ L, ∀ y ∈ L, x.1 = y.1 → x = y := fun x hx y hy q => by
    have := ok.k
    obtain ⟨i, hi, rfl⟩ := List.mem_iff_getElem.1 hx
    obtain ⟨j, hj, rfl⟩ := List.mem_iff_getElem.1 hy
    have hij := (List.getElem_inj (h₀ := by simpa using hi) (h₁ := by simpa using hj) this).1 (by simpa using q)
    subst hij
    rfl
  by_cases c : C[e.1]? = some e.2.1
  · rw [if_pos c, List.filter_filter]
    refine List.filter_congr fun x hx => ?_
    by_cases d : x = e
    · subst d
      simp [kp, c]
    · have d1 : x.2.2 ≠ e.2.2 := fun q => d (inj x hx e h1 q)
      have d2 : x.1 ≠ e.1 := fun q => d (injk x hx e h1 q)
      simp [kp, d1, d2]
  · rw [if_neg c]
    refine List.filter_congr fun x hx => ?_
    by_cases d : x = e
    · subst d
      simp [kp, c]
    · have d1 : x.2.2 ≠ e.2.2 := fun q => d (inj x hx e h1 q)
      simp [kp, d1]
variable {K : Cx} (hK : ∀ f F, T f = some F → K.T f = some F)
include hK
abbrev fv (bid : Nat) : V := .fn (.func n_trail_Trail_int_carry_1) [] [.ptr bid 0 0 1]
theorem del_all {h : List Ob} {tid cid sid bid mid : Nat} {C : List Al} {S : List Int} {ov : V} (a : TB h tid cid sid C S ov) (hb : h[bid]? = some (.row 1 [.ptr tid 0 0 1])) {L : List En} {clk : Nat} (ok : EnOK L clk) (hL : ∀ e ∈ L, e.1 < C.length) (hm : h[mid]? = some (.map (enL L) clk)) (Q : Rs → Prop)
    (hQ : ∀ seen, (∀ e ∈ L, e.2.2 ∈ seen) → Q (.nrm, [(0, .mp mid), (1, fv bid), (7, .mp h.length), (9, .bool false)], h.set mid (.map (enL (L.filter (kp C seen))) clk) ++ [.dead])) :
    ∀ (k : Nat) (seen : List Nat) (last : Nat) (fr : Fr), (left L seen).length = k → clk ≤ last → get fr 0 = .mp mid → get fr 1 = fv bid → get fr 7 = .mp h.length → allR K X_maps_DeleteFunc_map_int_int_int_int_0 h.length mid clk Q k seen last fr (h.set mid (.map (enL (L.filter (kp C seen))) clk) ++ [.itr mid seen clk last]) := by
  have hml := (List.getElem?_eq_some_iff.1 hm).1
  intro k
  induction k with
  | zero =>
    intro seen last fr hk hcl f0 f1 f7
    have hall : left L seen = [] := List.length_eq_zero_iff.1 hk
    refine ⟨f7, enL (L.filter (kp C seen)), clk, ?_, ?_, hcl, ?_, ?_, ?_⟩
    · rw [List.getElem?_append_left (by simpa using hml)]; simp [hml]
    · simp
    · intro e he
      obtain ⟨x, hx, rfl⟩ := List.mem_map.1 he
      exact ok.c x (List.mem_filter.1 hx).1
    · rw [un_left, kp_left, hall]; rfl
    · refine ⟨[(0, .mp mid), (1, fv bid), (7, .mp h.length), (9, .bool false)], ?_, rfl, ?_⟩
      · simp [insB, X_maps_DeleteFunc_map_int_int_int_int_0, f0, f1, f7]
      · have := hQ seen fun e he => by
          by_cases c : e.2.2 ∈ seen
          · exact c
          · have := left_mem.2 ⟨he, c⟩
            rw [hall] at this
            simp at this
        have e1 : (h.set mid (.map (enL (L.filter (kp C seen))) clk) ++ [Ob.itr mid seen clk last]).set h.length .dead = h.set mid (.map (enL (L.filter (kp C seen))) clk) ++ [.dead] := by
          exact set_end (by simp)
        rw [e1]
        exact this
  | succ k ih =>
    intro seen last fr hk hcl f0 f1 f7
    have g1 : ∀ M x, (h.set mid (.map (enL M) clk) ++ [x])[mid]? = some (.map (enL M) clk) := fun M x => by
      rw [List.getElem?_append_left (by simpa using hml)]; simp [hml]
    refine ⟨f7, enL (L.filter (kp C seen)), clk, g1 _ _, by simp, hcl, ?_, ?_, Nat.le_refl _, ?_, ?_⟩
    · intro e he
      obtain ⟨x, hx, rfl⟩ := List.mem_map.1 he
      exact ok.c x (List.mem_filter.1 hx).1
    · rw [un_left, kp_left]
      intro q
      have : left L seen = [] := by simpa using q
      rw [this] at hk
      simp at hk
    · rw [enL_born]; exact (ok.sub _).b
    · rw [un_left, kp_left]
      intro e he
      obtain ⟨x, hx, rfl⟩ := List.mem_map.1 he
      obtain ⟨hxL, hxs⟩ := left_mem.1 hx
      obtain ⟨i, v, b⟩ := x
      have hi := hL _ hxL
      simp only at hi hxs
      have eset : (h.set mid (.map (enL (L.filter (kp C seen))) clk) ++ [Ob.itr mid seen clk last]).set h.length (.itr mid (seen ++ [b]) clk clk) = h.set mid (.map (enL (L.filter (kp C seen))) clk) ++ [.itr mid (seen ++ [b]) clk clk] := by
        exact set_end (by simp)
      simp only [enE]
      rw [eset]
      obtain ⟨h1, hh1⟩ : ∃ h1, h1 = h.set mid (.map (enL (L.filter (kp C seen))) clk) ++ [Ob.itr mid (seen ++ [b]) clk clk] := ⟨_, rfl⟩
      rw [← hh1]
      have hne : ∀ j : Nat, (∃ (z : Nat) (xs : List V), h[j]? = some (Ob.row z xs)) → h1[j]? = h[j]? := fun j ⟨z, xs, q⟩ => by
        have hj := (List.getElem?_eq_some_iff.1 q).1
        have : mid ≠ j := fun e => by rw [← e, hm] at q; cases q
        rw [hh1, List.getElem?_append_left (by simpa using hj), List.getElem?_set_ne this]
      have a1 : TB h1 tid cid sid C S ov := a.keep fun j hj => hne j (by
        rcases hj with rfl | rfl | rfl
        · exact ⟨_, _, a.t⟩
        · exact ⟨_, _, a.c⟩
        · exact ⟨_, _, a.s⟩)
      have hb1 : h1[bid]? = some (.row 1 [.ptr tid 0 0 1]) := by rw [hne bid ⟨_, _, hb⟩]; exact hb
      have kc := carry1 hK a1 hb1 i hi v
      have gm : h1[mid]? = some (.map (enL (L.filter (kp C seen))) clk) := by rw [hh1]; exact g1 _ _
      have hstep := kp_step (C := C) ok hx
      simp only at hstep
      have hcnt := left_step ok.b hx
      simp only at hcnt
      have hci : C[i]? = some C[i] := by simp [hi]
      by_cases cc : C[i] = v
      · rw [if_pos (by rw [hci, cc])] at hstep
        have hxm : ((i, v, b) : En) ∈ L.filter (kp C seen) := List.mem_filter.2 ⟨hxL, by simp [kp, hxs]⟩
        obtain ⟨j, m1, m2⟩ := mfind_some (n := 0) (ok.sub (kp C seen)).k hxm rfl
        simp only at m2
        rw [Nat.zero_add] at m1
        have km : ∀ nid, opJ nid h1 (.mdl (some .i64)) [.mp mid, iv i] = some (.tup [], some (mid, .map (enL (L.filter (kp C (seen ++ [b])))) clk)) := fun nid => by
          rw [o_mdl gm rfl m1, enL_map m2, hstep]
        have u1 : wr h1 (some (mid, .map (enL (L.filter (kp C (seen ++ [b])))) clk)) = h.set mid (.map (enL (L.filter (kp C (seen ++ [b])))) clk) ++ [Ob.itr mid (seen ++ [b]) clk clk] := by
          rw [wr_lt (by rw [hh1]; simp; omega), hh1, set_front (by simpa using hml), List.set_set]
        have kc' : ∀ h', h' = h1 → acw K n_trail_Trail_int_carry_1 [iv i, en v, .ptr bid 0 0 1] h' = some (.ret (.bool true), h1) := fun h' e => by rw [e, kc]; simp [cc]
        have kc2 := kc' h1 rfl
        refine ⟨[(0, .mp mid), (1, fv bid), (7, .mp h.length), (9, .bool true)], [(0, .mp mid), (1, fv bid), (4, iv i), (5, en v), (7, .mp h.length)], .nrm, [(0, .mp mid), (1, fv bid), (7, .mp h.length)], _, ?_, rfl, rfl, ?_, ?_, .inl rfl, ih (seen ++ [b]) clk _ (by omega) (Nat.le_refl _) rfl rfl rfl⟩
        · simp [insB, X_maps_DeleteFunc_map_int_int_int_int_0, f0, f1, f7]
        · simp [insD, X_maps_DeleteFunc_map_int_int_int_int_0]
        · simp [X_maps_DeleteFunc_map_int_int_int_int_0, x_maps_DeleteFunc_map_int_int_int_int_0, kc2, km, u1]
      · rw [if_neg (by rw [hci]; simpa using cc)] at hstep
        have kc2 : acw K n_trail_Trail_int_carry_1 [iv i, en v, .ptr bid 0 0 1] h1 = some (.ret (.bool false), h1) := by rw [kc]; simp [cc]
        refine ⟨[(0, .mp mid), (1, fv bid), (7, .mp h.length), (9, .bool true)], [(0, .mp mid), (1, fv bid), (4, iv i), (5, en v), (7, .mp h.length)], .nrm, [(0, .mp mid), (1, fv bid), (4, iv i), (7, .mp h.length), (16, .bool false)], h1, ?_, rfl, rfl, ?_, ?_, .inl rfl, ?_⟩
        · simp [insB, X_maps_DeleteFunc_map_int_int_int_int_0, f0, f1, f7]
        · simp [insD, X_maps_DeleteFunc_map_int_int_int_int_0]
        · simp [X_maps_DeleteFunc_map_int_int_int_int_0, x_maps_DeleteFunc_map_int_int_int_int_0, kc2]
        · have := ih (seen ++ [b]) clk [(0, .mp mid), (1, fv bid), (4, iv i), (7, .mp h.length), (16, .bool false)] (by omega) (Nat.le_refl _) rfl rfl rfl
          rw [hstep, ← hh1] at this
          exact this
end Go.RR.TI
set_option linter.unusedVariables false
set_option linter.unusedSimpArgs false
set_option maxRecDepth 100000
set_option maxHeartbeats 4000000
namespace Go.RR.TI
open Go Go.RR Go.RR.M
theorem kp_nil {C : List Al} {L : List En} : L.filter (kp C []) = L := List.filter_eq_self.2 fun x _ => by simp [kp]
/-- what is left of entries that are as the cells are -/
def rest (C : List Al) (L : List En) : List En := L.filter fun e => decide (C[e.1]? ≠ some e.2.1)
theorem kp_all {C : List Al} {L : List En} {seen : List Nat} (h : ∀ e ∈ L, e.2.2 ∈ seen) : L.filter (kp C seen) = rest C L := by
  unfold rest
  refine List.filter_congr fun x hx => ?_
  simp [kp, h x hx]
theorem set_same {h : List Ob} {i : Nat} {o : Ob} (e : h[i]? = some o) : h.set i o = h := by
  have hl := List.getElem?_eq_some_iff.1 e
  rw [← hl.2, List.set_getElem_self]
/-- deleting works so -/
def Del (K : Cx) : Prop := ∀ a h r, runN C0 F_maps_DeleteFunc_map_int_int_int_int a h = some r → acw K n_maps_DeleteFunc_map_int_int_int_int a h = some r
theorem del_C1 : Del C1 := fun a h r e => acw_H rfl e
theorem del_C : Del C := fun a h r e => acw_H rfl e
theorem hK0 : ∀ f F, T f = some F → C0.T f = some F := fun _ _ h => h
theorem del_run {h : List Ob} {tid cid sid bid mid : Nat} {C : List Al} {S : List Int} {ov : V} (a : TB h tid cid sid C S ov) (hb : h[bid]? = some (.row 1 [.ptr tid 0 0 1])) {L : List En} {clk : Nat} (ok : EnOK L clk) (hL : ∀ e ∈ L, e.1 < C.length) (hm : h[mid]? = some (.map (enL L) clk)) :
    runN C0 F_maps_DeleteFunc_map_int_int_int_int [.mp mid, fv bid] h = some (.ret (.tup []), h.set mid (.map (enL (rest C L)) clk) ++ [.dead]) := by
  refine runN_eq ?_
  refine ⟨[(6, .mp mid), (0, .mp mid), (1, fv bid)], h, mid, enL L, clk, ?_, rfl, hm, ?_⟩
  · simp [X_maps_DeleteFunc_map_int_int_int_int_0]
  · have := del_all hK0 a hb ok hL hm (fun s => fin [] (some s) = some (.ret (.tup []), h.set mid (.map (enL (rest C L)) clk) ++ [.dead])) (fun seen hs => by rw [kp_all hs]; rfl) L.length [] clk [(0, .mp mid), (1, fv bid), (7, .mp h.length)] (by rw [left_nil]) (Nat.le_refl _) rfl rfl rfl
    rw [kp_nil, set_same hm] at this
    have el : (enL L).length = L.length := by simp
    rw [el]
    exact this
theorem carry {K : Cx} (hK : ∀ f F, T f = some F → K.T f = some F) (hD : Del K) {h : List Ob} {tid cid sid oid m tot mid : Nat} {C : List Al} {S : List Int} {xs : List V} (a : TB h tid cid sid C S (.own oid 0 (m + 1) tot)) (o : h[oid]? = some (.row 1 xs)) (ht : xs.length = tot) (hm1 : m ≤ 1000000) (hx : xs[m]? = some (.mp mid)) {L : List En} {clk : Nat} (ok : EnOK L clk) (hL : ∀ e ∈ L, e.1 < C.length) (hm : h[mid]? = some (.map (enL L) clk)) :
    acw K n_trail_Trail_int_carry [.ptr tid 0 0 1] h = some (.ret (.tup []), (h ++ [Ob.row 1 [.ptr tid 0 0 1]]).set mid (.map (enL (rest C L)) clk) ++ [.dead]) := by
  have a1 : TB (h ++ [Ob.row 1 [.ptr tid 0 0 1]]) tid cid sid C S (.own oid 0 (m + 1) tot) := ⟨get_some a.t, get_some a.c, get_some a.s, a.n1, a.n2, a.n3, a.sl⟩
  have kl := lastT hK a1 (get_some o) ht hm1 hx
  have kd := hD _ _ _ (del_run a1 (bid := h.length) (by simp) ok hL (get_some hm))
  rw [acw_hm (hK _ _ T_trail_Trail_int_carry) rfl]
  simp [runW_fin, F_trail_Trail_int_carry, i_trail_Trail_int_carry, kl, kd]
end Go.RR.TI
set_option linter.unusedVariables false
set_option linter.unusedSimpArgs false
set_option maxRecDepth 100000
set_option maxHeartbeats 4000000
namespace Go.RR.TI
open Go Go.RR Go.RR.M
/-- cells and stamps when some entries have been turned back -/
structure Bk (L : List En) (C : List Al) (S : List Int) (seen : List Nat) (Cs : List Al) (Ss : List Int) : Prop where
  c : Cs.length = C.length
  s : Ss.length = S.length
  y : ∀ e ∈ L, e.2.2 ∈ seen → Cs[e.1]? = some e.2.1 ∧ Ss[e.1]? = some (S.getD e.1 0 + if C[e.1]? = some e.2.1 then 0 else 1)
  n : ∀ i : Nat, (∀ e ∈ L, e.1 = i → e.2.2 ∉ seen) → Cs[i]? = C[i]? ∧ Ss[i]? = S[i]?
theorem Bk.nil {L : List En} {C : List Al} {S : List Int} : Bk L C S [] C S := ⟨rfl, rfl, fun e _ h => by simp at h, fun _ _ => ⟨rfl, rfl⟩⟩
theorem En.inj {L : List En} {clk : Nat} (ok : EnOK L clk) : (∀ x ∈ L, ∀ y ∈ L, x.2.2 = y.2.2 → x = y) ∧ ∀ x ∈ L, ∀ y ∈ L, x.1 = y.1 → x = y := by
  constructor
  · intro x hx y hy q
    have := ok.b
    obtain ⟨i, hi, rfl⟩ := List.mem_iff_getElem.1 hx
    obtain ⟨j, hj, rfl⟩ := List.mem_iff_getElem.1 hy
    have hij := (List.getElem_inj (h₀ := by simpa using hi) (h₁ := by simpa using hj) this).1 (by simpa using q)
    subst hij
    rfl
  · intro x hx y hy q
    have := ok.k
    obtain ⟨i, hi, rfl⟩ := List.mem_iff_getElem.1 hx
    obtain ⟨j, hj, rfl⟩ := List.mem_iff_getElem.1 hy
    have hij := (List.getElem_inj (h₀ := by simpa using hi) (h₁ := by simpa using hj) this).1 (by simpa using q)
    subst hij
    rfl
theorem Bk.step {L : List En} {C : List Al} {S Ss : List Int} {seen : List Nat} {Cs : List Al} {clk : Nat} (b : Bk L C S seen Cs Ss) (ok : EnOK L clk) (hL : ∀ e ∈ L, e.1 < C.length) (hs : S.length = C.length) {e : En} (he : e ∈ left L seen) : Bk L C S (seen ++ [e.2.2]) (Cs.set e.1 e.2.1) (putS Cs Ss e.1 e.2.1) := by
  obtain ⟨h1, h2⟩ := left_mem.1 he
  obtain ⟨inj, injk⟩ := En.inj ok
  have hi := hL e h1
  obtain ⟨q1, q2⟩ := b.n e.1 fun x hx q => by rw [injk x hx e h1 q]; exact h2
  have hCs : e.1 < Cs.length := by rw [b.c]; exact hi
  have hSs : e.1 < Ss.length := by rw [b.s, hs]; exact hi
  have hgd : Ss.getD e.1 0 = S.getD e.1 0 := by rw [List.getD_eq_getElem?_getD, List.getD_eq_getElem?_getD, q2]
  have hput : ∀ i, (putS Cs Ss e.1 e.2.1)[i]? = if i = e.1 then some (S.getD e.1 0 + if C[e.1]? = some e.2.1 then 0 else 1) else Ss[i]? := fun i => by
    unfold putS
    rw [q1]
    by_cases c : C[e.1]? = some e.2.1
    · rw [if_pos c]
      by_cases d : i = e.1
      · subst d
        rw [if_pos rfl, if_pos c, q2, List.getD_eq_getElem?_getD]
        have : e.1 < S.length := by rw [hs]; exact hi
        simp [this]
      · rw [if_neg d]
    · rw [if_neg c]
      by_cases d : i = e.1
      · subst d
        rw [if_pos rfl, if_neg c, hgd, List.getElem?_set_self hSs]
      · rw [if_neg d, List.getElem?_set_ne (Ne.symm d)]
  refine ⟨by rw [List.length_set]; exact b.c, by rw [putS_len]; exact b.s, fun x hx hs' => ?_, fun i hn => ?_⟩
  · rw [hput]
    by_cases d : x.1 = e.1
    · have := injk x hx e h1 d
      subst this
      rw [if_pos rfl, List.getElem?_set_self hCs]
      exact ⟨rfl, rfl⟩
    · have d1 : x.2.2 ≠ e.2.2 := fun q => d (by rw [inj x hx e h1 q])
      have : x.2.2 ∈ seen := by
        rcases List.mem_append.1 hs' with h | h
        · exact h
        · exact absurd (List.mem_singleton.1 h) d1
      rw [if_neg d, List.getElem?_set_ne (Ne.symm d)]
      exact b.y x hx this
  · have d : i ≠ e.1 := fun q => hn e h1 q.symm (by simp)
    rw [hput, if_neg d, List.getElem?_set_ne (Ne.symm d)]
    exact b.n i fun x hx q hm => hn x hx q (List.mem_append_left _ hm)
theorem Bk.bound {L : List En} {C : List Al} {S Ss : List Int} {seen : List Nat} {Cs : List Al} (b : Bk L C S seen Cs Ss) (hs : S.length = C.length) (hL : ∀ e ∈ L, e.1 < C.length) {B : Int} (h : ∀ s ∈ S, 0 ≤ s ∧ s ≤ B) : ∀ s ∈ Ss, 0 ≤ s ∧ s ≤ B + 1 := by
  intro s hs'
  obtain ⟨i, hi, rfl⟩ := List.mem_iff_getElem.1 hs'
  have hiS : i < S.length := by rw [← b.s]; exact hi
  have hg : 0 ≤ S.getD i 0 ∧ S.getD i 0 ≤ B := by
    rw [List.getD_eq_getElem?_getD, List.getElem?_eq_getElem hiS]
    exact h _ (List.getElem_mem hiS)
  by_cases c : ∃ e ∈ L, e.1 = i ∧ e.2.2 ∈ seen
  · obtain ⟨e, he, rfl, hse⟩ := c
    have := (b.y e he hse).2
    rw [List.getElem?_eq_getElem hi] at this
    have := Option.some.inj this
    rw [this]
    split <;> omega
  · have := (b.n i fun e he q hm => c ⟨e, he, q, hm⟩).2
    rw [List.getElem?_eq_getElem hi, List.getElem?_eq_getElem hiS] at this
    have := Option.some.inj this
    rw [this]
    have := h _ (List.getElem_mem hiS)
    omega
variable {K : Cx} (hK : ∀ f F, T f = some F → K.T f = some F)
include hK
theorem und_all {h : List Ob} {tid cid sid mid : Nat} {C : List Al} {S : List Int} {ov : V} (a : TB h tid cid sid C S ov) (hS : ∀ s ∈ S, 0 ≤ s ∧ s ≤ 999999) {L : List En} {clk : Nat} (ok : EnOK L clk) (hL : ∀ e ∈ L, e.1 < C.length) (hm : h[mid]? = some (.map (enL L) clk)) (Q : Rs → Prop)
    (hQ : ∀ seen Cs Ss h', (∀ e ∈ L, e.2.2 ∈ seen) → Bk L C S seen Cs Ss → TB h' tid cid sid Cs Ss ov → (∀ j, j < h.length → j ≠ cid → j ≠ sid → h'[j]? = h[j]?) → h'.length = h.length + 1 → h'[h.length]? = some .dead → Q (.nrm, [(0, .ptr tid 0 0 1), (3, .mp mid), (12, .mp h.length), (14, .bool false)], h')) :
    ∀ (k : Nat) (seen : List Nat) (last : Nat) (fr : Fr) (hc : List Ob) (Cs : List Al) (Ss : List Int), (left L seen).length = k → clk ≤ last → get fr 0 = .ptr tid 0 0 1 → get fr 3 = .mp mid → get fr 12 = .mp h.length → Bk L C S seen Cs Ss → TB hc tid cid sid Cs Ss ov → (∀ j, j < h.length → j ≠ cid → j ≠ sid → hc[j]? = h[j]?) → hc.length = h.length + 1 → hc[h.length]? = some (.itr mid seen clk last) →
    allR K X_trail_Trail_int_Undo_0 h.length mid clk Q k seen last fr hc := by
  have hml := (List.getElem?_eq_some_iff.1 hm).1
  have m1 : mid ≠ cid := fun e => by rw [e, a.c] at hm; cases hm
  have m2 : mid ≠ sid := fun e => by rw [e, a.s] at hm; cases hm
  have hcl := (List.getElem?_eq_some_iff.1 a.c).1
  have hsl := (List.getElem?_eq_some_iff.1 a.s).1
  have htl := (List.getElem?_eq_some_iff.1 a.t).1
  intro k
  induction k with
  | zero =>
    intro seen last fr hc Cs Ss hk hlast f0 f3 f12 bk tb same hlen hit
    have hall : left L seen = [] := List.length_eq_zero_iff.1 hk
    refine ⟨f12, enL L, clk, by rw [same mid hml m1 m2]; exact hm, hit, hlast, ?_, ?_, ?_⟩
    · intro e he
      obtain ⟨x, hx, rfl⟩ := List.mem_map.1 he
      exact ok.c x hx
    · rw [un_left, hall]; rfl
    · refine ⟨[(0, .ptr tid 0 0 1), (3, .mp mid), (12, .mp h.length), (14, .bool false)], ?_, rfl, ?_⟩
      · simp [insB, X_trail_Trail_int_Undo_0, f0, f3, f12]
      · refine hQ seen Cs Ss _ (fun e he => ?_) bk (tb.keep fun j hj => ?_) (fun j hj k1 k2 => ?_) (by rw [List.length_set]; exact hlen) (List.getElem?_set_self (by omega))
        · by_cases c : e.2.2 ∈ seen
          · exact c
          · have := left_mem.2 ⟨he, c⟩
            rw [hall] at this
            simp at this
        · rw [List.getElem?_set_ne (by rcases hj with rfl | rfl | rfl <;> omega)]
        · rw [List.getElem?_set_ne (by omega)]; exact same j hj k1 k2
  | succ k ih =>
    intro seen last fr hc Cs Ss hk hlast f0 f3 f12 bk tb same hlen hit
    refine ⟨f12, enL L, clk, by rw [same mid hml m1 m2]; exact hm, hit, hlast, ?_, ?_, Nat.le_refl _, ?_, ?_⟩
    · intro e he
      obtain ⟨x, hx, rfl⟩ := List.mem_map.1 he
      exact ok.c x hx
    · rw [un_left]
      intro q
      have : left L seen = [] := by simpa using q
      rw [this] at hk
      simp at hk
    · rw [enL_born]; exact ok.b
    · rw [un_left]
      intro e he
      obtain ⟨x, hx, rfl⟩ := List.mem_map.1 he
      obtain ⟨hxL, hxs⟩ := left_mem.1 hx
      have hstep := bk.step ok hL a.sl hx
      have hcnt := left_step ok.b hx
      obtain ⟨i, v, b⟩ := x
      have hi := hL _ hxL
      simp only at hi hxs hstep hcnt
      simp only [enE]
      obtain ⟨h1, hh1⟩ : ∃ h1, h1 = hc.set h.length (.itr mid (seen ++ [b]) clk clk) := ⟨_, rfl⟩
      rw [← hh1]
      have tb1 : TB h1 tid cid sid Cs Ss ov := tb.keep fun j hj => by
        rw [hh1, List.getElem?_set_ne (by rcases hj with rfl | rfl | rfl <;> omega)]
      have hbd := bk.bound a.sl hL hS
      obtain ⟨h2, kp, tb2, same2, len2⟩ := put hK tb1 i (by rw [bk.c]; exact hi) v (fun s hs => by have := hbd s hs; omega)
      refine ⟨[(0, .ptr tid 0 0 1), (3, .mp mid), (12, .mp h.length), (14, .bool true)], [(0, .ptr tid 0 0 1), (3, .mp mid), (4, iv i), (5, en v), (12, .mp h.length)], .nrm, [(0, .ptr tid 0 0 1), (3, .mp mid), (12, .mp h.length)], h2, ?_, rfl, rfl, ?_, ?_, .inl rfl, ?_⟩
      · simp [insB, X_trail_Trail_int_Undo_0, f0, f3, f12]
      · simp [insD, X_trail_Trail_int_Undo_0]
      · simp [X_trail_Trail_int_Undo_0, x_trail_Trail_int_Undo_0, kp]
      · refine ih (seen ++ [b]) clk _ h2 _ _ (by omega) (Nat.le_refl _) rfl rfl rfl hstep tb2 (fun j hj k1 k2 => ?_) (by rw [len2, hh1, List.length_set]; exact hlen) ?_
        · rw [same2 j k1 k2, hh1, List.getElem?_set_ne (by omega)]; exact same j hj k1 k2
        · rw [same2 h.length (by omega) (by omega), hh1]; exact List.getElem?_set_self (by omega)
end Go.RR.TI
set_option linter.unusedVariables false
set_option linter.unusedSimpArgs false
set_option maxRecDepth 100000
set_option maxHeartbeats 4000000
namespace Go.RR.TI
open Go Go.RR Go.RR.M
/-- a mark: its map tells what cells had that have another thing now -/
structure MK (h : List Ob) (mid : Nat) (L : List En) (clk : Nat) (now next : List Al) : Prop where
  m : h[mid]? = some (.map (enL L) clk)
  ok : EnOK L clk
  y : ∀ e ∈ L, now[e.1]? = some e.2.1
  n : ∀ i : Nat, (∀ e ∈ L, e.1 ≠ i) → now[i]? = next[i]?
  l : now.length = next.length
theorem MK.keep {h h' : List Ob} {mid clk : Nat} {L : List En} {now next : List Al} (a : MK h mid L clk now next) (k : h'[mid]? = h[mid]?) : MK h' mid L clk now next := ⟨by rw [k]; exact a.m, a.ok, a.y, a.n, a.l⟩
theorem MK.hL {h : List Ob} {mid clk : Nat} {L : List En} {now next : List Al} (a : MK h mid L clk now next) : ∀ e ∈ L, e.1 < next.length := fun e he => by
  have := (List.getElem?_eq_some_iff.1 (a.y e he)).1
  rw [← a.l]
  exact this
/-- stamps, when cells are turned back -/
def bump (C B : List Al) (S : List Int) : List Int := S.mapIdx fun i s => s + if C[i]? = B[i]? then 0 else 1
theorem bump_len {C B : List Al} {S : List Int} : (bump C B S).length = S.length := by simp [bump]
theorem bump_get {C B : List Al} {S : List Int} {i : Nat} : (bump C B S)[i]? = S[i]?.map fun s => s + if C[i]? = B[i]? then 0 else 1 := by simp [bump]
theorem Bk.fin {h : List Ob} {mid clk : Nat} {L : List En} {B C Cs : List Al} {S Ss : List Int} {seen : List Nat} (b : Bk L C S seen Cs Ss) (k : MK h mid L clk B C) (hs : S.length = C.length) (all : ∀ e ∈ L, e.2.2 ∈ seen) : Cs = B ∧ Ss = bump C B S := by
  constructor
  · refine List.ext_getElem? fun i => ?_
    by_cases c : ∃ e ∈ L, e.1 = i
    · obtain ⟨e, he, rfl⟩ := c
      rw [(b.y e he (all e he)).1, k.y e he]
    · have c' : ∀ e ∈ L, e.1 ≠ i := fun e he q => c ⟨e, he, q⟩
      rw [(b.n i fun e he q => absurd q (c' e he)).1, k.n i c']
  · refine List.ext_getElem? fun i => ?_
    rw [bump_get]
    by_cases c : ∃ e ∈ L, e.1 = i
    · obtain ⟨e, he, rfl⟩ := c
      have hi : e.1 < S.length := by rw [hs]; exact k.hL e he
      rw [(b.y e he (all e he)).2, k.y e he, List.getD_eq_getElem?_getD]
      simp [hi]
    · have c' : ∀ e ∈ L, e.1 ≠ i := fun e he q => c ⟨e, he, q⟩
      rw [(b.n i fun e he q => absurd q (c' e he)).2, k.n i c']
      simp
theorem hK1 : ∀ f F, T f = some F → C1.T f = some F := fun _ _ h => h
/-- the heap when all is turned back -/
def undH (h : List Ob) (tid cid sid oid m tot ma mb ka kb : Nat) (La : List En) (B C : List Al) (S : List Int) : List Ob :=
  (((((h.set cid (.row 1 (B.map en))).set sid (.row 1 ((bump C B S).map (V.int .i64))) ++ [Ob.dead]).set mb (.map [] kb)).set tid (.row 3 [.agg [.own cid 0 B.length B.length, .own sid 0 B.length B.length, .own oid 0 (m + 1) tot]]) ++ [Ob.row 1 [.ptr tid 0 0 1]]).set ma (.map (enL (rest B La)) ka)) ++ [Ob.dead]
theorem undo_run {h : List Ob} {tid cid sid oid m tot ma mb ka kb : Nat} {La Lb : List En} {A B C : List Al} {S : List Int} {xs : List V} (a : TB h tid cid sid C S (.own oid 0 (m + 2) tot)) (hS : ∀ s ∈ S, 0 ≤ s ∧ s ≤ 999999) (o : h[oid]? = some (.row 1 xs)) (ht : xs.length = tot) (hm1 : m + 2 ≤ 1000000)
    (xb : xs[m + 1]? = some (.mp mb)) (xa : xs[m]? = some (.mp ma)) (kb' : MK h mb Lb kb B C) (ka' : MK h ma La ka A B) (hab : ma ≠ mb) (oc : oid ≠ cid) (os : oid ≠ sid) (ot : oid ≠ tid) :
    runN C1 F_trail_Trail_int_Undo [.ptr tid 0 0 1] h = some (.ret (iv 0), undH h tid cid sid oid m tot ma mb ka kb La B C S) := by
  have km := marksT hK1 (m := m + 2) a o ht (by omega)
  have e1 : ((m + 2 : Nat) : Int) - 1 = (m : Int) + 1 := by omega
  rw [e1] at km
  have kl := lastT hK1 a o ht (by omega) xb
  have hxl := (List.getElem?_eq_some_iff.1 xb).1
  have c0 : decide ((m : Int) + 1 = 0) = false := by simp; omega
  have c0' : ((m : Int) + 1 == 0) = false := by rw [beq_eq_false_iff_ne]; omega
  have hbl := (List.getElem?_eq_some_iff.1 kb'.m).1
  have hal := (List.getElem?_eq_some_iff.1 ka'.m).1
  have htl := (List.getElem?_eq_some_iff.1 a.t).1
  have hcl := (List.getElem?_eq_some_iff.1 a.c).1
  have hsl := (List.getElem?_eq_some_iff.1 a.s).1
  have hol := (List.getElem?_eq_some_iff.1 o).1
  have b1 : mb ≠ cid := fun e => by have := kb'.m; rw [e, a.c] at this; cases this
  have b2 : mb ≠ sid := fun e => by have := kb'.m; rw [e, a.s] at this; cases this
  have b3 : mb ≠ tid := fun e => by have := kb'.m; rw [e, a.t] at this; cases this
  have b4 : mb ≠ oid := fun e => by have := kb'.m; rw [e, o] at this; cases this
  have a1 : ma ≠ cid := fun e => by have := ka'.m; rw [e, a.c] at this; cases this
  have a2 : ma ≠ sid := fun e => by have := ka'.m; rw [e, a.s] at this; cases this
  have a3 : ma ≠ tid := fun e => by have := ka'.m; rw [e, a.t] at this; cases this
  have a4 : ma ≠ oid := fun e => by have := ka'.m; rw [e, o] at this; cases this
  refine runN_eq ?_
  refine ⟨(.nrm, [(0, .ptr tid 0 0 1)], h), by simp, ?_⟩
  refine ⟨(.nrm, [(0, .ptr tid 0 0 1), (8, .bool false)], h), by simp [km, c0, c0'], ?_⟩
  refine ⟨(.nrm, [(0, .ptr tid 0 0 1), (3, .mp mb)], h), by simp [kl], ?_⟩
  refine ⟨[(11, .mp mb), (0, .ptr tid 0 0 1), (3, .mp mb)], h, mb, enL Lb, kb, by simp [X_trail_Trail_int_Undo_0], rfl, kb'.m, ?_⟩
  have el : (enL Lb).length = Lb.length := by simp
  rw [el]
  refine und_all hK1 a hS kb'.ok kb'.hL kb'.m _ (fun seen Cs Ss h' all bk tb same len dead => ?_) Lb.length [] kb _ _ C S (by rw [left_nil]) (Nat.le_refl _) rfl rfl rfl Bk.nil (a.keep fun j hj => get_lt (by rcases hj with rfl | rfl | rfl <;> assumption)) (fun j hj _ _ => get_lt hj) (by simp) (by simp)
  obtain ⟨rfl, rfl⟩ := bk.fin kb' a.sl all
  clear bk all
  have hA : h' = (h.set cid (.row 1 (Cs.map en))).set sid (.row 1 ((bump C Cs S).map (V.int .i64))) ++ [.dead] := by
    refine List.ext_getElem? fun j => ?_
    by_cases j1 : j < h.length
    · rw [get_lt (by simpa using j1)]
      by_cases j2 : j = sid
      · subst j2; rw [List.getElem?_set_self (by simpa using j1)]; exact tb.s
      · rw [List.getElem?_set_ne (Ne.symm j2)]
        by_cases j3 : j = cid
        · subst j3; rw [List.getElem?_set_self j1]; exact tb.c
        · rw [List.getElem?_set_ne (Ne.symm j3)]; exact same j j1 j3 j2
    · by_cases j2 : j = h.length
      · subst j2; rw [dead]; simp
      · rw [List.getElem?_eq_none (by omega), List.getElem?_eq_none (by simp; omega)]
  obtain ⟨h2, hh2⟩ : ∃ h2, h2 = h'.set mb (.map [] kb) := ⟨_, rfl⟩
  obtain ⟨h3, hh3⟩ : ∃ h3, h3 = h2.set tid (.row 3 [.agg [.own cid 0 Cs.length Cs.length, .own sid 0 Cs.length Cs.length, .own oid 0 (m + 1) tot]]) := ⟨_, rfl⟩
  have tb2 : TB h2 tid cid sid Cs (bump C Cs S) (.own oid 0 (m + 2) tot) := tb.keep fun j hj => by
    rw [hh2, List.getElem?_set_ne (by rcases hj with rfl | rfl | rfl <;> assumption)]
  have l2 : h2.length = h.length + 1 := by rw [hh2, List.length_set, len]
  have tb3 : TB h3 tid cid sid Cs (bump C Cs S) (.own oid 0 (m + 1) tot) := by
    refine ⟨?_, ?_, ?_, tb2.n1, tb2.n2, tb2.n3, tb2.sl⟩
    · rw [hh3, List.getElem?_set_self (by omega)]
    · rw [hh3, List.getElem?_set_ne tb2.n1]; exact tb2.c
    · rw [hh3, List.getElem?_set_ne tb2.n2]; exact tb2.s
  have o2 : h2[oid]? = some (.row 1 xs) := by rw [hh2, List.getElem?_set_ne b4, same oid hol oc os]; exact o
  have o3 : h3[oid]? = some (.row 1 xs) := by rw [hh3, List.getElem?_set_ne (Ne.symm ot)]; exact o2
  have am2 : h2[ma]? = some (.map (enL La) ka) := by rw [hh2, List.getElem?_set_ne (Ne.symm hab), same ma hal a1 a2]; exact ka'.m
  have am3 : h3[ma]? = some (.map (enL La) ka) := by rw [hh3, List.getElem?_set_ne (Ne.symm a3)]; exact am2
  have bm' : h'[mb]? = some (.map (enL Lb) kb) := by rw [same mb hbl b1 b2]; exact kb'.m
  have kmc : ∀ nid, opJ nid h' .mcl [.mp mb] = some (.tup [], some (mb, .map [] kb)) := fun nid => o_mcl bm'
  have u2 : wr h' (some (mb, .map [] kb)) = h2 := by rw [wr_lt (by omega), hh2]
  have kc := carry hK1 del_C1 tb3 o3 ht (by omega) xa ka'.ok ka'.hL am3
  have hFin : ((h3 ++ [Ob.row 1 [.ptr tid 0 0 1]]).set ma (.map (enL (rest Cs La)) ka) ++ [.dead]) = undH h tid cid sid oid m tot ma mb ka kb La Cs C S := by
    unfold undH; rw [hh3, hh2, hA]
  rw [hFin] at kc
  have c1 : m + 2 ≤ tot := by omega
  have w1 : IntKind.i64.wrap ((m : Int) + 2 - 1) = (m : Int) + 1 := by rw [show (m : Int) + 2 - 1 = m + 1 by omega]; exact wrap64 (by omega) (by omega)
  have c2 : 0 ≤ (m : Int) + 1 := by omega
  have c3 : (m : Int) + 1 ≤ (m : Int) + 2 := by omega
  have c4 : ((m : Int) + 1).toNat = m + 1 := by omega
  have u3 : wr h2 (some (tid, .row 3 [.agg [.own cid 0 Cs.length Cs.length, .own sid 0 Cs.length Cs.length, .own oid 0 (m + 1) tot]])) = h3 := by rw [wr_lt (by omega), hh3]
  refine ⟨(.ret, [(2, iv 0)], undH h tid cid sid oid m tot ma mb ka kb La Cs C S), ?_, by simp [fin, F_trail_Trail_int_Undo]⟩
  simp [kmc, u2, tb2.t, o2, ht, w1, c1, c2, c3, c4, u3, kc]
end Go.RR.TI
set_option linter.unusedVariables false
set_option linter.unusedSimpArgs false
set_option maxRecDepth 100000
set_option maxHeartbeats 4000000
namespace Go.RR.TI
open Go Go.RR Go.RR.M
theorem app_eq {z b : Nat} {h : List Ob} {xs : List V} {y : V} (h1 : (xs.length + 1) * b ≤ 70368744177664) (h2 : xs.length + 1 ≤ 70368744177664) :
    ∃ w, appV (accH z h xs).length (accH z h xs) z b (accV z h.length xs) (.sl z [y]) = some (accV z h.length (xs ++ [y]), w) ∧ wr (accH z h xs) w = accH z h (xs ++ [y]) := by
  have hne : xs ++ [y] ≠ [] := by simp
  have hy : ∀ h, src h (.sl z [y]) = some (z, [y]) := fun _ => rfl
  unfold appV
  simp only [op1, ev_c, hy, if_true]
  unfold accV accH at *
  by_cases e : xs = []
  · subst e
    simp only [List.nil_append, List.length_nil, Nat.zero_add, Nat.one_mul] at *
    simp [h1, h2]
  · simp [e, rowOf, h1, h2, wr, comb]
theorem accH_end {z : Nat} {h : List Ob} {xs : List V} {a b : Ob} : (accH z (h ++ [a]) xs).set h.length b = accH z (h ++ [b]) xs := by
  unfold accH
  by_cases e : xs = []
  · simp [e]
  · simp [e, set_front]
theorem accH_old {z : Nat} {h : List Ob} {xs : List V} {j : Nat} (hj : j < h.length) : (accH z h xs)[j]? = h[j]? := by
  unfold accH
  split
  · rfl
  · exact get_lt hj
/-- the cells that have another thing -/
def chg (C B : List Al) : List Int := ((List.range C.length).filter fun i : Nat => decide (C[i]? ≠ B[i]?)).map fun i : Nat => (i : Int)
theorem chg_sorted {C B : List Al} : (chg C B).Pairwise (· < ·) := by
  unfold chg
  rw [List.pairwise_map]
  refine (List.pairwise_lt_range.filter _).imp fun {a b} h => by omega
theorem chg_mem {C B : List Al} {z : Int} : z ∈ chg C B ↔ ∃ i : Nat, i < C.length ∧ z = i ∧ C[i]? ≠ B[i]? := by
  unfold chg
  simp only [List.mem_map, List.mem_filter, List.mem_range, decide_eq_true_eq]
  constructor
  · rintro ⟨i, ⟨h1, h2⟩, rfl⟩
    exact ⟨i, h1, rfl, h2⟩
  · rintro ⟨i, h1, rfl, h2⟩
    exact ⟨i, ⟨h1, h2⟩, rfl⟩
theorem chg_len {C B : List Al} : (chg C B).length ≤ C.length := by
  unfold chg
  rw [List.length_map]
  exact Nat.le_trans (List.length_filter_le _ _) (by simp)
/-- what has been gathered of the entries seen -/
structure Got (L : List En) (C : List Al) (seen : List Nat) (ks : List Int) : Prop where
  n : ks.Nodup
  m : ∀ z, z ∈ ks ↔ ∃ e ∈ L, e.2.2 ∈ seen ∧ z = (e.1 : Int) ∧ C[e.1]? ≠ some e.2.1
theorem Got.nil {L : List En} {C : List Al} : Got L C [] [] := ⟨List.nodup_nil, fun z => by simp⟩
theorem Got.step {L : List En} {C : List Al} {seen : List Nat} {ks : List Int} {clk : Nat} (g : Got L C seen ks) (ok : EnOK L clk) {e : En} (he : e ∈ left L seen) : Got L C (seen ++ [e.2.2]) (if C[e.1]? = some e.2.1 then ks else ks ++ [(e.1 : Int)]) := by
  obtain ⟨h1, h2⟩ := left_mem.1 he
  obtain ⟨inj, injk⟩ := En.inj ok
  have hm : ∀ z : Int, (∃ x ∈ L, x.2.2 ∈ seen ++ [e.2.2] ∧ z = (x.1 : Int) ∧ C[x.1]? ≠ some x.2.1) ↔ z ∈ ks ∨ (z = (e.1 : Int) ∧ C[e.1]? ≠ some e.2.1) := fun z => by
    rw [g.m]
    constructor
    · rintro ⟨x, hx, k1, k2, k3⟩
      rcases List.mem_append.1 k1 with k | k
      · exact .inl ⟨x, hx, k, k2, k3⟩
      · have := inj x hx e h1 (List.mem_singleton.1 k)
        subst this
        exact .inr ⟨k2, k3⟩
    · rintro (⟨x, hx, k1, k2, k3⟩ | ⟨k2, k3⟩)
      · exact ⟨x, hx, List.mem_append_left _ k1, k2, k3⟩
      · exact ⟨e, h1, by simp, k2, k3⟩
  by_cases c : C[e.1]? = some e.2.1
  · rw [if_pos c]
    exact ⟨g.n, fun z => by rw [hm z]; simp [c]⟩
  · rw [if_neg c]
    refine ⟨?_, fun z => by rw [hm z]; simp [c]⟩
    refine List.nodup_append.2 ⟨g.n, by simp, fun a ha b hb => ?_⟩
    rw [List.mem_singleton.1 hb]
    intro q
    subst q
    obtain ⟨x, hx, k1, k2, k3⟩ := (g.m _).1 ha
    have := injk x hx e h1 (by omega)
    subst this
    exact h2 k1
theorem Got.fin {h : List Ob} {mid clk : Nat} {L : List En} {B C : List Al} {seen : List Nat} {ks : List Int} (g : Got L C seen ks) (k : MK h mid L clk B C) (all : ∀ e ∈ L, e.2.2 ∈ seen) : sortI ks = chg C B := by
  have hm : ∀ z, z ∈ ks ↔ z ∈ chg C B := fun z => by
    rw [g.m, chg_mem]
    constructor
    · rintro ⟨e, he, k1, rfl, k3⟩
      exact ⟨e.1, k.hL e he, rfl, by rw [k.y e he]; exact k3⟩
    · rintro ⟨i, hi, rfl, k3⟩
      by_cases c : ∃ e ∈ L, e.1 = i
      · obtain ⟨e, he, rfl⟩ := c
        exact ⟨e, he, all e he, rfl, by rw [← k.y e he]; exact k3⟩
      · exact absurd (k.n i fun e he q => c ⟨e, he, q⟩).symm k3
  have hp : ks.Perm (chg C B) := (List.perm_ext_iff_of_nodup g.n (chg_sorted.imp fun {a b} h => by omega)).2 hm
  exact List.Perm.eq_of_pairwise (le := (· ≤ ·)) (fun a b _ _ h1 h2 => Int.le_antisymm h1 h2) (sortI_sorted ks) (chg_sorted.imp fun {a b} h => by omega) ((sortI_perm ks).trans hp)
abbrev iL (ks : List Int) : List V := ks.map (V.int .i64)
variable {K : Cx} (hK : ∀ f F, T f = some F → K.T f = some F)
include hK
omit hK in
theorem chg_all {h : List Ob} {tid cid sid mid : Nat} {C : List Al} {S : List Int} {ov : V} (a : TB h tid cid sid C S ov) {L : List En} {clk : Nat} (ok : EnOK L clk) (hL : ∀ e ∈ L, e.1 < C.length) (hln : L.length ≤ 1000000) (hm : h[mid]? = some (.map (enL L) clk)) (Q : Rs → Prop)
    (hQ : ∀ seen ks, (∀ e ∈ L, e.2.2 ∈ seen) → Got L C seen ks → Q (.nrm, [(0, .ptr tid 0 0 1), (3, accV 1 (h.length + 1) (iL ks)), (8, .mp h.length), (10, .bool false)], accH 1 (h ++ [.dead]) (iL ks))) :
    ∀ (k : Nat) (seen : List Nat) (last : Nat) (fr : Fr) (ks : List Int), (left L seen).length = k → ks.length + k ≤ L.length → clk ≤ last → get fr 0 = .ptr tid 0 0 1 → get fr 3 = accV 1 (h.length + 1) (iL ks) → get fr 8 = .mp h.length → Got L C seen ks →
    allR K X_trail_Trail_int_Changed_0 h.length mid clk Q k seen last fr (accH 1 (h ++ [.itr mid seen clk last]) (iL ks)) := by
  have hml := (List.getElem?_eq_some_iff.1 hm).1
  have hcl := (List.getElem?_eq_some_iff.1 a.c).1
  have hsl := (List.getElem?_eq_some_iff.1 a.s).1
  have htl := (List.getElem?_eq_some_iff.1 a.t).1
  have old : ∀ (j : Nat) (x : Ob) (ks : List Int), j < h.length → (accH 1 (h ++ [x]) (iL ks))[j]? = h[j]? := fun j x ks hj => by rw [accH_old (by simp; omega), get_lt hj]
  have itr : ∀ (x : Ob) (ks : List Int), (accH 1 (h ++ [x]) (iL ks))[h.length]? = some x := fun x ks => by rw [accH_old (by simp)]; simp
  have l1 : ∀ x : Ob, h.length + 1 = (h ++ [x]).length := fun x => by simp
  intro k
  induction k with
  | zero =>
    intro seen last fr ks hk hkl hlast f0 f3 f8 g
    have hall : left L seen = [] := List.length_eq_zero_iff.1 hk
    refine ⟨f8, enL L, clk, by rw [old mid _ _ hml]; exact hm, itr _ _, hlast, ?_, ?_, ?_⟩
    · intro e he
      obtain ⟨x, hx, rfl⟩ := List.mem_map.1 he
      exact ok.c x hx
    · rw [un_left, hall]; rfl
    · refine ⟨[(0, .ptr tid 0 0 1), (3, accV 1 (h.length + 1) (iL ks)), (8, .mp h.length), (10, .bool false)], ?_, rfl, ?_⟩
      · simp [insB, X_trail_Trail_int_Changed_0, f0, f3, f8]
      · rw [accH_end]
        refine hQ seen ks (fun e he => ?_) g
        by_cases c : e.2.2 ∈ seen
        · exact c
        · have := left_mem.2 ⟨he, c⟩
          rw [hall] at this
          simp at this
  | succ k ih =>
    intro seen last fr ks hk hkl hlast f0 f3 f8 g
    refine ⟨f8, enL L, clk, by rw [old mid _ _ hml]; exact hm, itr _ _, hlast, ?_, ?_, Nat.le_refl _, ?_, ?_⟩
    · intro e he
      obtain ⟨x, hx, rfl⟩ := List.mem_map.1 he
      exact ok.c x hx
    · rw [un_left]
      intro q
      have : left L seen = [] := by simpa using q
      rw [this] at hk
      simp at hk
    · rw [enL_born]; exact ok.b
    · rw [un_left]
      intro e he
      obtain ⟨x, hx, rfl⟩ := List.mem_map.1 he
      obtain ⟨hxL, hxs⟩ := left_mem.1 hx
      have hstep := g.step ok hx
      have hcnt := left_step ok.b hx
      obtain ⟨i, v, b⟩ := x
      have hi := hL _ hxL
      simp only at hi hxs hstep hcnt
      simp only [enE]
      rw [accH_end]
      obtain ⟨w, kw1, kw2⟩ := app_eq (z := 1) (b := 8) (h := h ++ [Ob.itr mid (seen ++ [b]) clk clk]) (xs := iL ks) (y := iv i) (by simp; omega) (by simp; omega)
      rw [← l1] at kw1
      have e3 : iL ks ++ [iv i] = iL (ks ++ [(i : Int)]) := by simp
      rw [e3] at kw1 kw2
      obtain ⟨h1, hh1⟩ : ∃ h1, h1 = accH 1 (h ++ [Ob.itr mid (seen ++ [b]) clk clk]) (iL ks) := ⟨_, rfl⟩
      have tb1 : TB h1 tid cid sid C S ov := a.keep fun j hj => by
        rw [hh1, old _ _ _ (by rcases hj with rfl | rfl | rfl <;> assumption)]
      rw [← hh1] at kw1 kw2 ⊢
      obtain ⟨a1, a2, a3, n1, n2, n3, sl⟩ := tb1
      have hi2 : (i : Int) < C.length := by omega
      obtain ⟨y, hy⟩ : ∃ y, y = C[i] := ⟨_, rfl⟩
      have h3 : C[i]? = some y := by simp [hi, hy]
      have h4 : ∀ h : i < C.length, C[i]'h = y := fun _ => hy.symm
      rw [h3] at hstep
      by_cases c : y = v
      · subst c
        rw [if_pos rfl] at hstep
        refine ⟨[(0, .ptr tid 0 0 1), (3, accV 1 (h.length + 1) (iL ks)), (8, .mp h.length), (10, .bool true)], [(0, .ptr tid 0 0 1), (3, accV 1 (h.length + 1) (iL ks)), (4, iv i), (5, en y), (8, .mp h.length)], .nrm, [(0, .ptr tid 0 0 1), (3, accV 1 (h.length + 1) (iL ks)), (4, iv i), (8, .mp h.length), (22, .bool false)], h1, ?_, rfl, rfl, ?_, ?_, .inl rfl, ?_⟩
        · simp [insB, X_trail_Trail_int_Changed_0, f0, f3, f8]
        · simp [insD, X_trail_Trail_int_Changed_0]
        · simp [X_trail_Trail_int_Changed_0, x_trail_Trail_int_Changed_0, a1, a2, hi, hi2, h3, h4, bnA]
        · rw [hh1]; exact ih (seen ++ [b]) clk _ ks (by omega) (by omega) (Nat.le_refl _) rfl rfl rfl hstep
      · rw [if_neg (by simpa using c)] at hstep
        refine ⟨[(0, .ptr tid 0 0 1), (3, accV 1 (h.length + 1) (iL ks)), (8, .mp h.length), (10, .bool true)], [(0, .ptr tid 0 0 1), (3, accV 1 (h.length + 1) (iL ks)), (4, iv i), (5, en v), (8, .mp h.length)], .nrm, [(0, .ptr tid 0 0 1), (3, accV 1 (h.length + 1) (iL (ks ++ [(i : Int)]))), (8, .mp h.length)], _, ?_, rfl, rfl, ?_, ?_, .inl rfl, ih (seen ++ [b]) clk _ (ks ++ [(i : Int)]) (by omega) (by simp; omega) (Nat.le_refl _) rfl rfl rfl hstep⟩
        · simp [insB, X_trail_Trail_int_Changed_0, f0, f3, f8]
        · simp [insD, X_trail_Trail_int_Changed_0]
        · have kbs : bsfL (.int .i64 0) [iv (i : Int)] = some (.sl 1 [iv (i : Int)]) := rfl
          simp only [X_trail_Trail_int_Changed_0]
          simp [kbs, x_trail_Trail_int_Changed_0, a1, a2, hi, hi2, h3, h4, bnA, c, kw1, kw2]
end Go.RR.TI
set_option linter.unusedVariables false
set_option linter.unusedSimpArgs false
set_option maxRecDepth 100000
set_option maxHeartbeats 4000000
namespace Go.RR.TI
open Go Go.RR Go.RR.M
theorem srt_C1 {a : List V} {h : List Ob} {r : Out × List Ob} (e : sortH a h = some r) : acw C1 n_slices_Sort_sint_int a h = some r := acw_H rfl (by
  show HN C0 TN1 n_slices_Sort_sint_int a h = some r
  unfold HN
  exact e)
theorem sort_acc {h : List Ob} {ks : List Int} (hk : ks.length < 4611686018427387904) : acw C1 n_slices_Sort_sint_int [accV 1 h.length (iL ks)] (accH 1 h (iL ks)) = some (.ret (.tup []), accH 1 h (iL (sortI ks))) := by
  refine srt_C1 ?_
  have hs := sortI_length ks
  by_cases e : ks = []
  · subst e; rfl
  · have e2 : sortI ks ≠ [] := by
      intro q
      rw [q] at hs
      exact e (List.length_eq_zero_iff.1 hs.symm)
    simp [accV, accH, e, e2, sortH, ints_map, hk]
theorem acc_srt {j : Nat} {ks : List Int} : accV 1 j (iL ks) = accV 1 j (iL (sortI ks)) := by
  have hs := sortI_length ks
  by_cases e : ks = []
  · subst e; rfl
  · have e2 : sortI ks ≠ [] := by
      intro q
      rw [q] at hs
      exact e (List.length_eq_zero_iff.1 hs.symm)
    simp [accV, e, e2, hs]
theorem nodup_le : ∀ {l m : List Nat}, l.Nodup → (∀ z ∈ l, z ∈ m) → l.length ≤ m.length
  | [], m, _, _ => Nat.zero_le _
  | x :: r, m, hn, hs => by
    obtain ⟨h1, h2⟩ := List.nodup_cons.1 hn
    have hx := hs x (by simp)
    have ih := nodup_le (m := m.erase x) h2 fun z hz => (List.mem_erase_of_ne (fun q : z = x => h1 (by rw [← q]; exact hz))).2 (hs z (by simp [hz]))
    rw [List.length_erase_of_mem hx] at ih
    have := List.length_pos_of_mem hx
    simp only [List.length_cons]
    omega
theorem chg_run {h : List Ob} {tid cid sid oid m tot mb kb : Nat} {Lb : List En} {B C : List Al} {S : List Int} {xs : List V} (a : TB h tid cid sid C S (.own oid 0 (m + 1) tot)) (o : h[oid]? = some (.row 1 xs)) (ht : xs.length = tot) (hm1 : m ≤ 1000000)
    (xb : xs[m]? = some (.mp mb)) (kb' : MK h mb Lb kb B C) (hln : Lb.length ≤ 1000000) :
    runN C1 F_trail_Trail_int_Changed [.ptr tid 0 0 1] h = some (.ret (accV 1 (h.length + 1) (iL (chg C B))), accH 1 (h ++ [.dead]) (iL (chg C B))) := by
  have kl := lastT hK1 a o ht (by omega) xb
  refine runN_eq ?_
  refine ⟨(.nrm, [(0, .ptr tid 0 0 1)], h), by simp, ?_⟩
  refine ⟨(.nrm, [(0, .ptr tid 0 0 1), (3, .nsl 1)], h), by simp, ?_⟩
  refine ⟨[(7, .mp mb), (6, .ptr tid 0 0 1), (0, .ptr tid 0 0 1), (3, .nsl 1)], h, mb, enL Lb, kb, by simp [X_trail_Trail_int_Changed_0, kl], rfl, kb'.m, ?_⟩
  have el : (enL Lb).length = Lb.length := by simp
  rw [el]
  refine chg_all a kb'.ok kb'.hL hln kb'.m _ (fun seen ks all g => ?_) Lb.length [] kb _ [] (by rw [left_nil]) (by simp) (Nat.le_refl _) rfl rfl rfl Got.nil
  have hfin := g.fin kb' all
  have hl : ks.length < 4611686018427387904 := by
    rw [← sortI_length ks, hfin]
    have hcl : (chg C B).length ≤ Lb.length := by
      rw [← hfin, sortI_length]
      have h1 : (ks.map Int.toNat).Nodup := by
        refine (List.pairwise_map).2 (g.n.imp_of_mem fun {x y} hx hy hne q => ?_)
        obtain ⟨_, _, _, rfl, _⟩ := (g.m x).1 hx
        obtain ⟨_, _, _, rfl, _⟩ := (g.m y).1 hy
        exact hne (by simp at q; omega)
      have h2 : ∀ z ∈ ks.map Int.toNat, z ∈ Lb.map (·.1) := fun z hz => by
        obtain ⟨w, hw, rfl⟩ := List.mem_map.1 hz
        obtain ⟨e, he, _, rfl, _⟩ := (g.m w).1 hw
        exact List.mem_map.2 ⟨e, he, by simp⟩
      have := nodup_le h1 h2
      simpa using this
    omega
  have ks1 := sort_acc (h := h ++ [Ob.dead]) hl
  rw [List.length_append, List.length_singleton, hfin] at ks1
  have e2 := acc_srt (j := h.length + 1) (ks := ks)
  rw [hfin] at e2
  refine ⟨(.ret, [(2, accV 1 (h.length + 1) (iL (chg C B)))], accH 1 (h ++ [.dead]) (iL (chg C B))), ?_, ?_⟩
  · simp [ks1]
    exact e2
  · unfold accV
    split <;> simp [fin, F_trail_Trail_int_Changed]
end Go.RR.TI
set_option linter.unusedVariables false
set_option linter.unusedSimpArgs false
set_option maxRecDepth 100000
set_option maxHeartbeats 4000000
namespace Go.RR.TI
open Go Go.RR Go.RR.M
abbrev Mt := Nat × List En × Nat
/-- the marks, the last one ahead -/
def Ch (h : List Ob) : List Mt → List (List Al) → List Al → Prop
  | [], [], _ => True
  | q :: ms, B :: Os, C => MK h q.1 q.2.1 q.2.2 B C ∧ Ch h ms Os B
  | _, _, _ => False
theorem Ch.keep {h h' : List Ob} : ∀ {Ms : List Mt} {Os : List (List Al)} {C : List Al}, Ch h Ms Os C → (∀ j ∈ Ms.map (·.1), h'[j]? = h[j]?) → Ch h' Ms Os C
  | [], [], _, _, _ => trivial
  | q :: ms, B :: Os, C, ⟨a, b⟩, k => ⟨a.keep (k q.1 (by simp)), b.keep fun j hj => k j (by simp at hj ⊢; exact .inr hj)⟩
  | [], _ :: _, _, a, _ => a.elim
  | _ :: _, [], _, a, _ => a.elim
theorem Ch.len {h : List Ob} : ∀ {Ms : List Mt} {Os : List (List Al)} {C : List Al}, Ch h Ms Os C → Ms.length = Os.length
  | [], [], _, _ => rfl
  | q :: ms, B :: Os, C, ⟨a, b⟩ => by simp [b.len]
  | [], _ :: _, _, a => a.elim
  | _ :: _, [], _, a => a.elim
theorem Ch.mem {h : List Ob} : ∀ {Ms : List Mt} {Os : List (List Al)} {C : List Al}, Ch h Ms Os C → ∀ j ∈ Ms.map (·.1), ∃ es c, h[j]? = some (Ob.map es c)
  | [], [], _, _, _, hj => by simp at hj
  | q :: ms, B :: Os, C, ⟨a, b⟩, j, hj => by
    rw [List.map_cons] at hj
    rcases List.mem_cons.1 hj with rfl | h
    · exact ⟨_, _, a.m⟩
    · exact b.mem j h
  | [], _ :: _, _, a, _, _ => a.elim
  | _ :: _, [], _, a, _, _ => a.elim
theorem Ch.lens {h : List Ob} : ∀ {Ms : List Mt} {Os : List (List Al)} {C : List Al}, Ch h Ms Os C → ∀ B ∈ Os, B.length = C.length
  | [], [], _, _, _, hj => by simp at hj
  | q :: ms, B :: Os, C, ⟨a, b⟩, D, hj => by
    rcases List.mem_cons.1 hj with rfl | h
    · exact a.l
    · exact (b.lens D h).trans a.l
  | [], _ :: _, _, a, _, _ => a.elim
  | _ :: _, [], _, a, _, _ => a.elim
structure TX (h : List Ob) (tid cid sid oid : Nat) (xs : List V) (Ms : List Mt) (C : List Al) (S : List Int) (Os : List (List Al)) : Prop where
  a : TB h tid cid sid C S (.own oid 0 Ms.length xs.length)
  o : h[oid]? = some (.row 1 xs)
  x : xs.take Ms.length = Ms.reverse.map fun q => .mp q.1
  ch : Ch h Ms Os C
  nd : (Ms.map (·.1)).Nodup
  oc : oid ≠ cid
  os : oid ≠ sid
  ot : oid ≠ tid
  ne : Os ≠ []
abbrev foot (tid cid sid oid : Nat) (Ms : List Mt) : List Nat := tid :: cid :: sid :: oid :: Ms.map (·.1)
theorem TX.keep {h h' : List Ob} {tid cid sid oid : Nat} {xs : List V} {Ms : List Mt} {C : List Al} {S : List Int} {Os : List (List Al)} (t : TX h tid cid sid oid xs Ms C S Os) (k : ∀ j ∈ foot tid cid sid oid Ms, h'[j]? = h[j]?) : TX h' tid cid sid oid xs Ms C S Os :=
  ⟨t.a.keep fun j hj => k j (by simp [foot]; rcases hj with h | h | h <;> simp [h]), by rw [k oid (by simp [foot])]; exact t.o, t.x, t.ch.keep fun j hj => k j (by simp [foot] at hj ⊢; exact .inr (.inr (.inr (.inr hj)))), t.nd, t.oc, t.os, t.ot, t.ne⟩
theorem TX.lt {h : List Ob} {tid cid sid oid : Nat} {xs : List V} {Ms : List Mt} {C : List Al} {S : List Int} {Os : List (List Al)} (t : TX h tid cid sid oid xs Ms C S Os) : ∀ j ∈ foot tid cid sid oid Ms, j < h.length := by
  intro j hj
  simp only [foot, List.mem_cons] at hj
  rcases hj with rfl | rfl | rfl | rfl | hj
  · exact (List.getElem?_eq_some_iff.1 t.a.t).1
  · exact (List.getElem?_eq_some_iff.1 t.a.c).1
  · exact (List.getElem?_eq_some_iff.1 t.a.s).1
  · exact (List.getElem?_eq_some_iff.1 t.o).1
  · obtain ⟨es, c, e⟩ := t.ch.mem j hj
    exact (List.getElem?_eq_some_iff.1 e).1
/-- the map of the k-th mark -/
theorem TX.top {h : List Ob} {tid cid sid oid : Nat} {xs : List V} {q : Mt} {ms : List Mt} {C : List Al} {S : List Int} {Os : List (List Al)} (t : TX h tid cid sid oid xs (q :: ms) C S Os) : xs[ms.length]? = some (.mp q.1) := by
  have := t.x
  have e : (xs.take (q :: ms).length)[ms.length]? = xs[ms.length]? := by simp
  rw [← e, this]
  simp
theorem TX.top2 {h : List Ob} {tid cid sid oid : Nat} {xs : List V} {q p : Mt} {ms : List Mt} {C : List Al} {S : List Int} {Os : List (List Al)} (t : TX h tid cid sid oid xs (q :: p :: ms) C S Os) : xs[ms.length]? = some (.mp p.1) := by
  have := t.x
  have e : (xs.take (q :: p :: ms).length)[ms.length]? = xs[ms.length]? := List.getElem?_take_of_lt (by simp; omega)
  rw [← e, this]
  simp
/-- a trail: where it lies; its cells, stamps, what it had at its marks -/
def TR (h : List Ob) (tid : Nat) (F : List Nat) (C : List Al) (S : List Int) (Os : List (List Al)) : Prop := ∃ cid sid oid xs Ms, TX h tid cid sid oid xs Ms C S Os ∧ F = foot tid cid sid oid Ms
theorem TR.keep {h h' : List Ob} {tid : Nat} {F : List Nat} {C : List Al} {S : List Int} {Os : List (List Al)} (t : TR h tid F C S Os) (k : ∀ j ∈ F, h'[j]? = h[j]?) : TR h' tid F C S Os := by
  obtain ⟨cid, sid, oid, xs, Ms, t, rfl⟩ := t
  exact ⟨cid, sid, oid, xs, Ms, t.keep k, rfl⟩
theorem TR.lt {h : List Ob} {tid : Nat} {F : List Nat} {C : List Al} {S : List Int} {Os : List (List Al)} (t : TR h tid F C S Os) : ∀ j ∈ F, j < h.length := by
  obtain ⟨cid, sid, oid, xs, Ms, t, rfl⟩ := t
  exact t.lt
theorem TR.lens {h : List Ob} {tid : Nat} {F : List Nat} {C : List Al} {S : List Int} {Os : List (List Al)} (t : TR h tid F C S Os) : S.length = C.length ∧ (∀ B ∈ Os, B.length = C.length) ∧ Os ≠ [] := by
  obtain ⟨cid, sid, oid, xs, Ms, t, rfl⟩ := t
  exact ⟨t.a.sl, t.ch.lens, t.ne⟩
/-- what an act changes of a heap -/
structure Mv (n : Nat) (h h' : List Ob) (F F' : List Nat) : Prop where
  l : h.length ≤ h'.length
  k : ∀ j, j < h.length → j ∉ F → h'[j]? = h[j]?
  f : ∀ j ∈ F', j ∈ F ∨ h.length ≤ j
  u : h'.length ≤ h.length + n
theorem Mv.refl {h : List Ob} {F : List Nat} : Mv 0 h h F F := ⟨Nat.le_refl _, fun _ _ _ => rfl, fun _ h => .inl h, Nat.le_refl _⟩
theorem Mv.trans {n m : Nat} {h h1 h2 : List Ob} {F F1 F2 : List Nat} (a : Mv n h h1 F F1) (b : Mv m h1 h2 F1 F2) : Mv (n + m) h h2 F F2 := by
  refine ⟨Nat.le_trans a.l b.l, fun j hj hn => ?_, fun j hj => ?_, by have := a.u; have := b.u; omega⟩
  · rw [b.k j (Nat.lt_of_lt_of_le hj a.l) fun h => ?_, a.k j hj hn]
    rcases a.f j h with h | h
    · exact hn h
    · omega
  · rcases b.f j hj with h | h
    · exact a.f j h
    · exact .inr (Nat.le_trans a.l h)
theorem und_C {a : List V} {h : List Ob} {r : Out × List Ob} (e : runN C1 F_trail_Trail_int_Undo a h = some r) : acw M.C n_trail_Trail_int_Undo a h = some r := acw_H rfl (by
  show HN C1 TN2 n_trail_Trail_int_Undo a h = some r
  unfold HN
  exact e)
theorem chg_C {a : List V} {h : List Ob} {r : Out × List Ob} (e : runN C1 F_trail_Trail_int_Changed a h = some r) : acw M.C n_trail_Trail_int_Changed a h = some r := acw_H rfl (by
  show HN C1 TN2 n_trail_Trail_int_Changed a h = some r
  unfold HN
  exact e)
theorem hKC : ∀ f F, T f = some F → M.C.T f = some F := fun _ _ h => h
/-- where the heap is another one when all is turned back -/
theorem undH_at {h : List Ob} {tid cid sid oid m tot ma mb ka kb : Nat} {La : List En} {B C : List Al} {S : List Int} (a1 : tid ≠ cid) (a2 : tid ≠ sid) (a3 : cid ≠ sid) (b1 : mb ≠ tid) (b2 : mb ≠ cid) (b3 : mb ≠ sid) (c1 : ma ≠ tid) (c2 : ma ≠ cid) (c3 : ma ≠ sid) (c4 : ma ≠ mb) (lt : tid < h.length) (lc : cid < h.length) (ls : sid < h.length) (lb : mb < h.length) (la : ma < h.length) :
    (undH h tid cid sid oid m tot ma mb ka kb La B C S)[tid]? = some (.row 3 [.agg [.own cid 0 B.length B.length, .own sid 0 B.length B.length, .own oid 0 (m + 1) tot]]) ∧ (undH h tid cid sid oid m tot ma mb ka kb La B C S)[cid]? = some (.row 1 (B.map en)) ∧ (undH h tid cid sid oid m tot ma mb ka kb La B C S)[sid]? = some (.row 1 ((bump C B S).map (V.int .i64))) ∧ (undH h tid cid sid oid m tot ma mb ka kb La B C S)[ma]? = some (.map (enL (rest B La)) ka) ∧
    (∀ j, j < h.length → j ≠ tid → j ≠ cid → j ≠ sid → j ≠ ma → j ≠ mb → (undH h tid cid sid oid m tot ma mb ka kb La B C S)[j]? = h[j]?) ∧ (undH h tid cid sid oid m tot ma mb ka kb La B C S).length = h.length + 3 := by
  unfold undH
  refine ⟨?_, ?_, ?_, ?_, fun j hj d1 d2 d3 d4 d5 => ?_, by simp⟩
  · rw [get_lt (by simp; omega), List.getElem?_set_ne c1, get_lt (by simp; omega), List.getElem?_set_self (by simp; omega)]
  · rw [get_lt (by simp; omega), List.getElem?_set_ne c2, get_lt (by simp; omega), List.getElem?_set_ne a1, List.getElem?_set_ne b2, get_lt (by simp; omega), List.getElem?_set_ne (Ne.symm a3), List.getElem?_set_self (by omega)]
  · rw [get_lt (by simp; omega), List.getElem?_set_ne c3, get_lt (by simp; omega), List.getElem?_set_ne a2, List.getElem?_set_ne b3, get_lt (by simp; omega), List.getElem?_set_self (by simp; omega)]
  · rw [get_lt (by simp; omega), List.getElem?_set_self (by simp; omega)]
  · rw [get_lt (by simp; omega), List.getElem?_set_ne (Ne.symm d4), get_lt (by simp; omega), List.getElem?_set_ne (Ne.symm d1), List.getElem?_set_ne (Ne.symm d5), get_lt (by simp; omega), List.getElem?_set_ne (Ne.symm d3), List.getElem?_set_ne (Ne.symm d2)]
theorem MK.rest {h h' : List Ob} {mid clk : Nat} {L : List En} {now next : List Al} (a : MK h mid L clk now next) (e : h'[mid]? = some (.map (enL (rest next L)) clk)) : MK h' mid (rest next L) clk now next := by
  refine ⟨e, a.ok.sub _, fun e he => a.y e (List.mem_filter.1 he).1, fun i hn => ?_, a.l⟩
  by_cases c : ∃ e ∈ L, e.1 = i
  · obtain ⟨e, he, rfl⟩ := c
    by_cases d : next[e.1]? = some e.2.1
    · rw [a.y e he, d]
    · exact absurd rfl (hn e (List.mem_filter.2 ⟨he, by simpa using d⟩))
  · exact a.n i fun e he q => c ⟨e, he, q⟩
theorem undoT {h : List Ob} {tid : Nat} {F : List Nat} {A B C : List Al} {S : List Int} {Os : List (List Al)} (t : TR h tid F C S (B :: A :: Os)) (hS : ∀ s ∈ S, 0 ≤ s ∧ s ≤ 999999) (hO : Os.length ≤ 999990) :
    ∃ h' F', acw M.C n_trail_Trail_int_Undo [.ptr tid 0 0 1] h = some (.ret (iv 0), h') ∧ TR h' tid F' B (bump C B S) (A :: Os) ∧ Mv 3 h h' F F' := by
  obtain ⟨cid, sid, oid, xs, Ms, t, rfl⟩ := t
  have lt := t.lt
  have hl := t.ch.len
  match Ms, t, lt, hl with
  | [], t, lt, hl => simp at hl
  | [_], t, lt, hl => simp at hl
  | q :: p :: ms, t, lt, hl =>
  obtain ⟨mb, Lb, kb⟩ := q
  obtain ⟨ma, La, ka⟩ := p
  have t1 := t.top
  have t2 := t.top2
  have t0 := t.x
  obtain ⟨a, o, x, ch, nd, oc, os, ot, ne⟩ := t
  obtain ⟨kB, kA, chr⟩ := ch
  simp only [List.map_cons, List.nodup_cons, List.mem_cons, not_or] at nd
  obtain ⟨⟨d1, d2⟩, d3, d4⟩ := nd
  have hne : ma ≠ mb := fun e => d1 e.symm
  have hml : ms.length = Os.length := by simpa using hl
  have run : acw M.C n_trail_Trail_int_Undo [.ptr tid 0 0 1] h = some (.ret (iv 0), undH h tid cid sid oid ms.length xs.length ma mb ka kb La B C S) := und_C (undo_run a hS o rfl (by omega) (by simpa using t1) t2 kB kA hne oc os ot)
  have b1 : mb ≠ cid := fun e => by have := kB.m; simp only [e, a.c] at this; cases this
  have b2 : mb ≠ sid := fun e => by have := kB.m; simp only [e, a.s] at this; cases this
  have b3 : mb ≠ tid := fun e => by have := kB.m; simp only [e, a.t] at this; cases this
  have b4 : mb ≠ oid := fun e => by have := kB.m; simp only [e, o] at this; cases this
  have a1 : ma ≠ cid := fun e => by have := kA.m; simp only [e, a.c] at this; cases this
  have a2 : ma ≠ sid := fun e => by have := kA.m; simp only [e, a.s] at this; cases this
  have a3 : ma ≠ tid := fun e => by have := kA.m; simp only [e, a.t] at this; cases this
  have a4 : ma ≠ oid := fun e => by have := kA.m; simp only [e, o] at this; cases this
  have lmb : mb < h.length := lt mb (by simp [foot])
  have lma : ma < h.length := lt ma (by simp [foot])
  have ltid : tid < h.length := lt tid (by simp [foot])
  have lcid : cid < h.length := lt cid (by simp [foot])
  have lsid : sid < h.length := lt sid (by simp [foot])
  have loid : oid < h.length := lt oid (by simp [foot])
  obtain ⟨u1, u2, u3, u4, u5, u6⟩ := undH_at (h := h) (oid := oid) (m := ms.length) (tot := xs.length) (ka := ka) (kb := kb) (La := La) (B := B) (C := C) (S := S) a.n1 a.n2 a.n3 b3 b1 b2 a3 a1 a2 hne ltid lcid lsid lmb lma
  refine ⟨_, foot tid cid sid oid ((ma, rest B La, ka) :: ms), run, ⟨cid, sid, oid, xs, (ma, TI.rest B La, ka) :: ms, ⟨⟨u1, u2, u3, a.n1, a.n2, a.n3, ?_⟩, ?_, ?_, ⟨kA.rest u4, ?_⟩, ?_, oc, os, ot, by simp⟩, rfl⟩, ⟨by omega, fun j hj hn => ?_, fun j hj => ?_, by omega⟩⟩
  · rw [bump_len, a.sl, kB.l]
  · rw [u5 oid loid ot oc os (Ne.symm a4) (Ne.symm b4)]; exact o
  · have e : xs.take (ms.length + 1) = (xs.take (ms.length + 2)).take (ms.length + 1) := by rw [List.take_take]; congr 1; omega
    have t0' : xs.take (ms.length + 2) = _ := t0
    show xs.take (ms.length + 1) = _
    rw [e, t0']
    simp only [List.reverse_cons, List.map_append, List.map_cons, List.map_nil]
    exact List.take_left' (by simp)
  · refine chr.keep fun j hj => ?_
    obtain ⟨es, c, e⟩ := chr.mem j hj
    have n1 : j ≠ tid := fun q => by rw [q, a.t] at e; cases e
    have n2 : j ≠ cid := fun q => by rw [q, a.c] at e; cases e
    have n3 : j ≠ sid := fun q => by rw [q, a.s] at e; cases e
    exact u5 j (List.getElem?_eq_some_iff.1 e).1 n1 n2 n3 (fun q => d3 (q ▸ hj)) (fun q => d2 (q ▸ hj))
  · exact List.nodup_cons.2 ⟨d3, d4⟩
  · simp only [foot, List.map_cons, List.mem_cons, not_or] at hn
    obtain ⟨n1, n2, n3, n4, n5, n6, n7⟩ := hn
    exact u5 j hj n1 n2 n3 n6 n5
  · simp only [foot, List.map_cons, List.mem_cons] at hj ⊢
    rcases hj with h | h | h | h | h | h <;> simp [h]
end Go.RR.TI
set_option linter.unusedVariables false
set_option linter.unusedSimpArgs false
set_option maxRecDepth 100000
set_option maxHeartbeats 4000000
namespace Go.RR.TI
open Go Go.RR Go.RR.M
theorem ovr_len {m : Nat} {xs : List V} {y : V} (h : m ≤ xs.length) : (ovr m xs [y]).length = if m = xs.length then m + 1 else xs.length := by
  unfold ovr
  simp
  split <;> omega
theorem ovr_take {m : Nat} {xs : List V} {y : V} (h : m ≤ xs.length) : (ovr m xs [y]).take (m + 1) = xs.take m ++ [y] := by
  unfold ovr
  rw [List.append_assoc, List.take_append]
  simp [Nat.min_eq_left h]
  rw [List.take_of_length_le (by simp; omega)]
theorem app_mark {h : List Ob} {oid m : Nat} {xs : List V} {v y : V} (o : h[oid]? = some (.row 1 xs)) (hm : m ≤ xs.length) (hm2 : m ≤ 1000000) (hv : src h v = some (1, [y])) : appV h.length h 1 8 (.own oid 0 m xs.length) v = some (.own oid 0 (m + 1) (ovr m xs [y]).length, some (oid, .row 1 (ovr m xs [y]))) := by
  unfold appV
  rw [ovr_len hm]
  by_cases c : m = xs.length
  · subst c
    have c1 : (xs.length + 1) * 8 ≤ 70368744177664 := by omega
    have c2 : xs.length + 1 ≤ 70368744177664 := by omega
    have e : ovr xs.length xs [y] = comb 0 xs [y] := by simp [ovr, comb]
    simp only [op1, ev_c, hv, if_true, rowOf, o, reduceCtorEq, if_false, List.cons_ne_self, List.length_singleton, Nat.zero_add, true_and, c1, c2, and_self, e]
  · have c1 : m + 1 ≤ xs.length := by omega
    simp only [op1, ev_c, hv, if_true, rowOf, o, List.length_singleton, Nat.zero_add, true_and, c, c1, false_and, if_false]
    simp
/-- what is read -/
theorem TR.get1 {h : List Ob} {tid : Nat} {F : List Nat} {C : List Al} {S : List Int} {Os : List (List Al)} (t : TR h tid F C S Os) (i : Nat) (hi : i < C.length) : acw M.C n_trail_Trail_int_Get [.ptr tid 0 0 1, iv i] h = some (.ret (.tup [en C[i], .bool true]), h) := by
  obtain ⟨cid, sid, oid, xs, Ms, t, rfl⟩ := t
  exact getT hKC t.a i hi
theorem TR.get0 {h : List Ob} {tid : Nat} {F : List Nat} {C : List Al} {S : List Int} {Os : List (List Al)} (t : TR h tid F C S Os) (i : Int) (hi : ¬ (0 ≤ i ∧ i < C.length)) : acw M.C n_trail_Trail_int_Get [.ptr tid 0 0 1, iv i] h = some (.ret (.tup [en zA, .bool false]), h) := by
  obtain ⟨cid, sid, oid, xs, Ms, t, rfl⟩ := t
  exact getF hKC t.a i hi
theorem TR.stamp1 {h : List Ob} {tid : Nat} {F : List Nat} {C : List Al} {S : List Int} {Os : List (List Al)} (t : TR h tid F C S Os) (i : Nat) (hi : i < C.length) : acw M.C n_trail_Trail_int_Stamp [.ptr tid 0 0 1, iv i] h = some (.ret (iv (S.getD i 0)), h) := by
  obtain ⟨cid, sid, oid, xs, Ms, t, rfl⟩ := t
  exact stampT hKC t.a i hi
theorem TR.stamp0 {h : List Ob} {tid : Nat} {F : List Nat} {C : List Al} {S : List Int} {Os : List (List Al)} (t : TR h tid F C S Os) (i : Int) (hi : ¬ (0 ≤ i ∧ i < C.length)) : acw M.C n_trail_Trail_int_Stamp [.ptr tid 0 0 1, iv i] h = some (.ret (iv 0), h) := by
  obtain ⟨cid, sid, oid, xs, Ms, t, rfl⟩ := t
  exact stampF hKC t.a i hi
theorem TR.marks {h : List Ob} {tid : Nat} {F : List Nat} {C : List Al} {S : List Int} {Os : List (List Al)} (t : TR h tid F C S Os) (hO : Os.length ≤ 1000000) : acw M.C n_trail_Trail_int_Marks [.ptr tid 0 0 1] h = some (.ret (iv ((Os.length : Int) - 1)), h) := by
  obtain ⟨cid, sid, oid, xs, Ms, t, rfl⟩ := t
  rw [← t.ch.len] at hO ⊢
  exact marksT hKC t.a t.o rfl hO
theorem TR.chg {h : List Ob} {tid : Nat} {F : List Nat} {B C : List Al} {S : List Int} {Os : List (List Al)} (t : TR h tid F C S (B :: Os)) (hO : Os.length ≤ 999999) (hC : C.length ≤ 1000) : acw M.C n_trail_Trail_int_Changed [.ptr tid 0 0 1] h = some (.ret (accV 1 (h.length + 1) (iL (chg C B))), accH 1 (h ++ [.dead]) (iL (chg C B))) := by
  obtain ⟨cid, sid, oid, xs, Ms, t, rfl⟩ := t
  have hl := t.ch.len
  match Ms, t, hl with
  | [], t, hl => simp at hl
  | q :: ms, t, hl =>
  have hml : ms.length = Os.length := by simpa using hl
  have t1 := t.top
  obtain ⟨a, o, x, ch, nd, oc, os, ot, ne⟩ := t
  obtain ⟨kB, chr⟩ := ch
  have hln : q.2.1.length ≤ 1000000 := by
    have := nodup_le kB.ok.k (m := List.range C.length) fun z hz => by
      obtain ⟨e, he, rfl⟩ := List.mem_map.1 hz
      exact List.mem_range.2 (kB.hL e he)
    simp at this
    omega
  exact chg_C (chg_run a o rfl (by omega) t1 kB hln)
theorem saveT {h : List Ob} {tid : Nat} {F : List Nat} {C : List Al} {S : List Int} {Os : List (List Al)} (t : TR h tid F C S Os) (hO : Os.length ≤ 999990) :
    ∃ h' F', acw M.C n_trail_Trail_int_Save [.ptr tid 0 0 1] h = some (.ret (iv Os.length), h') ∧ TR h' tid F' C S (C :: Os) ∧ Mv 2 h h' F F' := by
  obtain ⟨cid, sid, oid, xs, Ms, t, rfl⟩ := t
  have lt := t.lt
  have hl := t.ch.len
  obtain ⟨a, o, x, ch, nd, oc, os, ot, ne⟩ := t
  have lx : Ms.length ≤ xs.length := by
    have := congrArg List.length x
    simp at this
    omega
  have ltid : tid < h.length := lt tid (by simp [foot])
  have lcid : cid < h.length := lt cid (by simp [foot])
  have lsid : sid < h.length := lt sid (by simp [foot])
  have loid : oid < h.length := lt oid (by simp [foot])
  obtain ⟨h1, hh1⟩ : ∃ h1, h1 = h ++ [Ob.map [] 0] := ⟨_, rfl⟩
  obtain ⟨h2, hh2⟩ : ∃ h2, h2 = h1 ++ [Ob.row 1 [.mp h.length]] := ⟨_, rfl⟩
  obtain ⟨h3, hh3⟩ : ∃ h3, h3 = h2.set oid (.row 1 (ovr Ms.length xs [.mp h.length])) := ⟨_, rfl⟩
  obtain ⟨h4, hh4⟩ : ∃ h4, h4 = h3.set tid (.row 3 [.agg [.own cid 0 C.length C.length, .own sid 0 C.length C.length, .own oid 0 (Ms.length + 1) (ovr Ms.length xs [.mp h.length]).length]]) := ⟨_, rfl⟩
  have L1 : h1.length = h.length + 1 := by rw [hh1]; simp
  have L2 : h2.length = h.length + 2 := by rw [hh2]; simp [L1]
  have L3 : h3.length = h.length + 2 := by rw [hh3, List.length_set, L2]
  have e1 : ∀ j, j < h.length → h2[j]? = h[j]? := fun j hj => by rw [hh2, get_lt (by omega), hh1, get_lt hj]
  have e3 : ∀ j, j < h.length → j ≠ oid → h3[j]? = h[j]? := fun j hj hn => by rw [hh3, List.getElem?_set_ne (Ne.symm hn), e1 j hj]
  have e4 : ∀ j, j < h.length → j ≠ oid → j ≠ tid → h4[j]? = h[j]? := fun j hj hn hn2 => by rw [hh4, List.getElem?_set_ne (Ne.symm hn2), e3 j hj hn]
  have e5 : h4[h.length]? = some (.map [] 0) := by rw [hh4, List.getElem?_set_ne (by omega), hh3, List.getElem?_set_ne (by omega), hh2, get_lt (by omega), hh1]; simp
  have tb : TB h4 tid cid sid C S (.own oid 0 (Ms.length + 1) (ovr Ms.length xs [.mp h.length]).length) := by
    refine ⟨by rw [hh4, List.getElem?_set_self (by omega)], ?_, ?_, a.n1, a.n2, a.n3, a.sl⟩
    · rw [e4 cid lcid (Ne.symm oc) (Ne.symm a.n1)]; exact a.c
    · rw [e4 sid lsid (Ne.symm os) (Ne.symm a.n2)]; exact a.s
  have o4 : h4[oid]? = some (.row 1 (ovr Ms.length xs [.mp h.length])) := by rw [hh4, List.getElem?_set_ne (Ne.symm ot), hh3, List.getElem?_set_self (by omega)]
  have km := marksT hKC (m := Ms.length + 1) tb o4 rfl (by omega)
  have e6 : ((Ms.length + 1 : Nat) : Int) - 1 = Ms.length := by omega
  rw [e6] at km
  have ka : appV h2.length h2 1 8 (.own oid 0 Ms.length xs.length) (.own (h.length + 1) 0 1 1) = some (.own oid 0 (Ms.length + 1) (ovr Ms.length xs [.mp h.length]).length, some (oid, .row 1 (ovr Ms.length xs [.mp h.length]))) := by
    refine app_mark (by rw [e1 oid loid]; exact o) lx (by omega) ?_
    have : h2[h.length + 1]? = some (.row 1 [.mp h.length]) := by rw [hh2, ← L1]; simp
    simp [src, elems, rowOf, this]
  rw [L2] at ka
  have u1 : wr h (some (h.length, .map [] 0)) = h1 := by rw [hh1]; simp [wr]
  have u2 : wr h1 (some (h.length + 1, .row 1 [.mp h.length])) = h2 := by rw [hh2]; simp [wr, L1]
  have u3 : wr h2 (some (oid, .row 1 (ovr Ms.length xs [.mp h.length]))) = h3 := by rw [wr_lt (by omega), hh3]
  have hh2' : h2 = h ++ [Ob.map [] 0, Ob.row 1 [.mp h.length]] := by rw [hh2, hh1]; simp
  rw [hh2'] at ka u3
  have t3 : h3[tid]? = some (.row 3 [.agg [.own cid 0 C.length C.length, .own sid 0 C.length C.length, .own oid 0 Ms.length xs.length]]) := by rw [e3 tid ltid (Ne.symm ot)]; exact a.t
  have u4 : wr h3 (some (tid, .row 3 [.agg [.own cid 0 C.length C.length, .own sid 0 C.length C.length, .own oid 0 (Ms.length + 1) (ovr Ms.length xs [.mp h.length]).length]])) = h4 := by rw [wr_lt (by omega), hh4]
  have kmk : ∀ nid (hh : List Ob), opJ nid hh .mkm [] = some (.mp nid, some (nid, .map [] 0)) := fun nid hh => o_mkm
  have at0 := a.t
  refine ⟨h4, foot tid cid sid oid ((h.length, [], 0) :: Ms), ?_, ⟨cid, sid, oid, ovr Ms.length xs [.mp h.length], (h.length, [], 0) :: Ms, ⟨tb, o4, ?_, ⟨⟨e5, ⟨by simp, by simp, by simp⟩, by simp, fun _ _ => rfl, rfl⟩, ch.keep fun j hj => ?_⟩, ?_, oc, os, ot, by simp⟩, rfl⟩, ⟨?_, fun j hj hn => ?_, fun j hj => ?_, by rw [hh4, List.length_set, L3]; omega⟩⟩
  · rw [acw_hm (hKC _ _ T_trail_Trail_int_Save) rfl, ← hl]
    simp [runW_fin, F_trail_Trail_int_Save, i_trail_Trail_int_Save, at0, kmk, ka, u3, t3, u4, km]
  · rw [List.length_cons, ovr_take lx, x]
    simp
  · obtain ⟨es, c, e⟩ := ch.mem j hj
    exact e4 j (lt j (by simp [foot] at hj ⊢; exact .inr (.inr (.inr (.inr hj))))) (fun q => by rw [q, o] at e; cases e) (fun q => by rw [q, a.t] at e; cases e)
  · refine List.nodup_cons.2 ⟨fun q => ?_, nd⟩
    have := lt h.length (by simp [foot] at q ⊢; exact .inr (.inr (.inr (.inr q))))
    omega
  · rw [hh4, List.length_set, L3]; omega
  · simp only [foot, List.mem_cons, not_or] at hn
    exact e4 j hj hn.2.2.2.1 hn.1
  · simp only [foot, List.map_cons, List.mem_cons] at hj ⊢
    rcases hj with q | q | q | q | q | q <;> simp [q]
end Go.RR.TI
set_option linter.unusedVariables false
set_option linter.unusedSimpArgs false
set_option maxRecDepth 100000
set_option maxHeartbeats 4000000
namespace Go.RR.TI
open Go Go.RR Go.RR.M
theorem TR.len {h : List Ob} {tid : Nat} {F : List Nat} {C : List Al} {S : List Int} {Os : List (List Al)} (t : TR h tid F C S Os) : acw M.C n_trail_Trail_int_Len [.ptr tid 0 0 1] h = some (.ret (iv C.length), h) := by
  obtain ⟨cid, sid, oid, xs, Ms, t, rfl⟩ := t
  obtain ⟨a1, a2, a3, n1, n2, n3, sl⟩ := t.a
  rw [acw_hm (hKC _ _ T_trail_Trail_int_Len) rfl]
  simp [runW_fin, F_trail_Trail_int_Len, i_trail_Trail_int_Len, a1, a2]
theorem setNo {h : List Ob} {tid : Nat} {F : List Nat} {C : List Al} {S : List Int} {Os : List (List Al)} (t : TR h tid F C S Os) (i : Int) (x : Al) (hi : ¬ (0 ≤ i ∧ i < C.length)) : acw M.C n_trail_Trail_int_Set [.ptr tid 0 0 1, iv i, en x] h = some (.ret (iv 1), h) := by
  obtain ⟨cid, sid, oid, xs, Ms, t, rfl⟩ := t
  have kt := there hKC t.a i
  have hb : (decide (0 ≤ i) && decide (i < (C.length : Int))) = false := by
    by_cases c : 0 ≤ i <;> simp [c] <;> omega
  rw [hb] at kt
  rw [acw_hm (hKC _ _ T_trail_Trail_int_Set) rfl]
  simp [runW_fin, F_trail_Trail_int_Set, i_trail_Trail_int_Set, kt]
theorem setT {h : List Ob} {tid : Nat} {F : List Nat} {C : List Al} {S : List Int} {Os : List (List Al)} (t : TR h tid F C S Os) (hS : ∀ s ∈ S, 0 ≤ s ∧ s ≤ 999999) (hO : Os.length ≤ 999999) (i : Nat) (hi : i < C.length) (x : Al) :
    ∃ h', acw M.C n_trail_Trail_int_Set [.ptr tid 0 0 1, iv i, en x] h = some (.ret (iv 0), h') ∧ TR h' tid F (C.set i x) (putS C S i x) Os ∧ Mv 0 h h' F F := by
  obtain ⟨cid, sid, oid, xs, Ms, t, rfl⟩ := t
  have lt := t.lt
  have hl := t.ch.len
  match Ms, Os, t, lt, hl with
  | [], [], t, lt, hl => exact absurd rfl t.ne
  | [], _ :: _, t, lt, hl => simp at hl
  | _ :: _, [], t, lt, hl => simp at hl
  | q :: ms, B :: Os, t, lt, hl =>
  obtain ⟨mid, L, clk⟩ := q
  have hml : ms.length = Os.length := by simpa using hl
  simp only [List.length_cons] at hO
  have t1 := t.top
  obtain ⟨a, o, x0, ch, nd, oc, os, ot, ne⟩ := t
  obtain ⟨kB, chr⟩ := ch
  have kt := there hKC a i
  have hi2 : (i : Int) < C.length := by omega
  simp [hi2] at kt
  have kl := lastT hKC a o rfl (by omega) t1
  simp only at kB kl
  have b1 : mid ≠ cid := fun e => by have := kB.m; simp only [e, a.c] at this; cases this
  have b2 : mid ≠ sid := fun e => by have := kB.m; simp only [e, a.s] at this; cases this
  have b3 : mid ≠ tid := fun e => by have := kB.m; simp only [e, a.t] at this; cases this
  have b4 : mid ≠ oid := fun e => by have := kB.m; simp only [e, o] at this; cases this
  have lmid : mid < h.length := lt mid (by simp [foot])
  have nms : mid ∉ ms.map (·.1) := by
    simp only [List.map_cons, List.nodup_cons] at nd
    exact nd.1
  have chrne : ∀ j ∈ ms.map (·.1), j ≠ tid ∧ j ≠ cid ∧ j ≠ sid ∧ j ≠ oid ∧ j ≠ mid := fun j hj => by
    obtain ⟨es, c, e⟩ := chr.mem j hj
    exact ⟨fun q => by (rw [q, a.t] at e; cases e), fun q => by (rw [q, a.c] at e; cases e), fun q => by (rw [q, a.s] at e; cases e), fun q => by (rw [q, o] at e; cases e), fun q => nms (q ▸ hj)⟩
  have nth : ∀ j : Nat, j ≠ i → (C.set i x)[j]? = C[j]? := fun j hj => List.getElem?_set_ne (Ne.symm hj)
  by_cases c : ∃ e ∈ L, e.1 = i
  · obtain ⟨e, he, hei⟩ := c
    obtain ⟨j, m1, m2⟩ := mfind_some (n := 0) kB.ok.k he hei
    have klk : ∀ nid, opJ nid h (.lku (some .i64) (en zA) true) [.mp mid, iv i] = some (.tup [en e.2.1, .bool true], none) := fun nid => o_lkt kB.m rfl m1
    obtain ⟨h2, kp, tb2, same, len⟩ := put hKC a i hi x (fun s hs => by have := hS s hs; omega)
    refine ⟨h2, ?_, ⟨cid, sid, oid, xs, (mid, L, clk) :: ms, ⟨tb2, by rw [same oid oc os]; exact o, x0, ⟨⟨by rw [same mid b1 b2]; exact kB.m, kB.ok, kB.y, fun k hk => ?_, by rw [List.length_set]; exact kB.l⟩, chr.keep fun j hj => ?_⟩, nd, oc, os, ot, ne⟩, rfl⟩, ⟨by omega, fun j hj hn => ?_, fun j hj => .inl hj, by omega⟩⟩
    · rw [acw_hm (hKC _ _ T_trail_Trail_int_Set) rfl]
      simp [runW_fin, F_trail_Trail_int_Set, i_trail_Trail_int_Set, kt, kl, klk, kp]
    · have : k ≠ i := fun q => hk e he (by rw [hei, q])
      rw [nth k this]
      exact kB.n k hk
    · exact same j (chrne j hj).2.1 (chrne j hj).2.2.1
    · simp only [foot, List.mem_cons, not_or] at hn
      exact same j hn.2.1 hn.2.2.1
  · have c' : ∀ e ∈ L, e.1 ≠ i := fun e he q => c ⟨e, he, q⟩
    have klk : ∀ nid, opJ nid h (.lku (some .i64) (en zA) true) [.mp mid, iv i] = some (.tup [en zA, .bool false], none) := fun nid => o_lkt0 kB.m rfl (mfind_none c')
    obtain ⟨y, hy⟩ : ∃ y, y = C[i] := ⟨_, rfl⟩
    have h3 : C[i]? = some y := by simp [hi, hy]
    have h4 : ∀ h : i < C.length, C[i]'h = y := fun _ => hy.symm
    have kmp : ∀ nid, opJ nid h (.mpu (some .i64)) [.mp mid, iv i, en y] = some (.und, some (mid, .map (enL (L ++ [(i, y, clk)])) (clk + 1))) := fun nid => by
      rw [o_mpu kB.m rfl rfl rfl (mfind_none c')]
      simp [enE]
    obtain ⟨h1, hh1⟩ : ∃ h1, h1 = h.set mid (.map (enL (L ++ [(i, y, clk)])) (clk + 1)) := ⟨_, rfl⟩
    have u1 : wr h (some (mid, .map (enL (L ++ [(i, y, clk)])) (clk + 1))) = h1 := by rw [wr_lt lmid, hh1]
    have u1' : wr h (some (mid, .map (List.map enE L ++ [enE (i, y, clk)]) (clk + 1))) = h1 := by rw [← u1]; simp
    have tb1 : TB h1 tid cid sid C S (.own oid 0 (ms.length + 1) xs.length) := a.keep fun j hj => by
      rw [hh1, List.getElem?_set_ne (by rcases hj with rfl | rfl | rfl <;> assumption)]
    obtain ⟨h2, kp, tb2, same, len⟩ := put hKC tb1 i hi x (fun s hs => by have := hS s hs; omega)
    have same' : ∀ j, j ≠ cid → j ≠ sid → j ≠ mid → h2[j]? = h[j]? := fun j k1 k2 k3 => by rw [same j k1 k2, hh1, List.getElem?_set_ne (Ne.symm k3)]
    have hm2 : h2[mid]? = some (.map (enL (L ++ [(i, y, clk)])) (clk + 1)) := by rw [same mid b1 b2, hh1, List.getElem?_set_self lmid]
    have ok' : EnOK (L ++ [(i, y, clk)]) (clk + 1) := by
      refine ⟨?_, ?_, fun e he => ?_⟩
      · rw [List.map_append, List.nodup_append]
        refine ⟨kB.ok.k, by simp, fun a ha b hb => ?_⟩
        obtain ⟨e, he, rfl⟩ := List.mem_map.1 ha
        simp at hb
        rw [hb]
        exact c' e he
      · rw [List.map_append, List.nodup_append]
        refine ⟨kB.ok.b, by simp, fun a ha b hb => ?_⟩
        obtain ⟨e, he, rfl⟩ := List.mem_map.1 ha
        simp at hb
        rw [hb]
        exact Nat.ne_of_lt (kB.ok.c e he)
      · rcases List.mem_append.1 he with h | h
        · exact Nat.lt_succ_of_lt (kB.ok.c e h)
        · rw [List.mem_singleton.1 h]; exact Nat.lt_succ_self _
    refine ⟨h2, ?_, ⟨cid, sid, oid, xs, (mid, L ++ [(i, y, clk)], clk + 1) :: ms, ⟨tb2, by rw [same' oid oc os (Ne.symm b4)]; exact o, by simpa using x0, ⟨⟨hm2, ok', fun e he => ?_, fun k hk => ?_, by rw [List.length_set]; exact kB.l⟩, chr.keep fun j hj => ?_⟩, nd, oc, os, ot, ne⟩, rfl⟩, ⟨by rw [len, hh1, List.length_set]; omega, fun j hj hn => ?_, fun j hj => .inl hj, by rw [len, hh1, List.length_set]; omega⟩⟩
    · obtain ⟨a1, a2, a3, n1, n2, n3, sl⟩ := a
      rw [acw_hm (hKC _ _ T_trail_Trail_int_Set) rfl]
      simp [runW_fin, F_trail_Trail_int_Set, i_trail_Trail_int_Set, kt, kl, klk, kmp, u1', kp, a1, a2, hi, hi2, h3, h4]
    · rcases List.mem_append.1 he with h | h
      · exact kB.y e h
      · rw [List.mem_singleton.1 h, kB.n i c']; exact h3
    · have : k ≠ i := fun q => hk (i, y, clk) (by simp) q.symm
      rw [nth k this]
      exact kB.n k fun e he => hk e (by simp [he])
    · obtain ⟨z1, z2, z3, z4, z5⟩ := chrne j hj
      exact same' j z2 z3 z5
    · simp only [foot, List.map_cons, List.mem_cons, not_or] at hn
      exact same' j hn.2.1 hn.2.2.1 hn.2.2.2.2.1
theorem undoNo {h : List Ob} {tid : Nat} {F : List Nat} {B C : List Al} {S : List Int} (t : TR h tid F C S [B]) : acw M.C n_trail_Trail_int_Undo [.ptr tid 0 0 1] h = some (.ret (iv 9), h) := by
  obtain ⟨cid, sid, oid, xs, Ms, t, rfl⟩ := t
  have hl := t.ch.len
  obtain ⟨a, o, x0, ch, nd, oc, os, ot, ne⟩ := t
  have km := marksT hK1 a o rfl (by rw [hl]; simp)
  rw [hl] at km
  refine und_C (runN_eq ?_)
  refine ⟨(.nrm, [(0, .ptr tid 0 0 1)], h), by simp, ?_⟩
  refine ⟨(.ret, [(2, iv 9)], h), ?_, by simp [fin, F_trail_Trail_int_Undo]⟩
  simp at km
  simp [km]
theorem newT (n : Nat) (hn : n ≤ 1000) (h : List Ob) : ∃ h' tid F, acw M.C n_trail_New_int [iv n] h = some (.ret (.tup [.ptr tid 0 0 1, iv 0]), h') ∧ TR h' tid F (List.replicate n zA) (List.replicate n 0) [List.replicate n zA] ∧ Mv 5 h h' [] F := by
  have c1 : ¬ ((n : Int) < 0) := by omega
  have c2 : ¬ ((1000 : Int) < n) := by omega
  have c3 : (n : Int) * 8 ≤ 70368744177664 := by omega
  have c4 : (n : Int) ≤ 70368744177664 := by omega
  refine ⟨h ++ [.row 1 (List.replicate n (en zA)), .row 1 (List.replicate n (iv 0)), .map [] 0, .row 1 [.mp (h.length + 2)], .row 3 [.agg [.own h.length 0 n n, .own (h.length + 1) 0 n n, .own (h.length + 3) 0 1 1]]], h.length + 4, foot (h.length + 4) h.length (h.length + 1) (h.length + 3) [(h.length + 2, [], 0)], ?_, ⟨h.length, h.length + 1, h.length + 3, [.mp (h.length + 2)], [(h.length + 2, [], 0)], ⟨⟨?_, ?_, ?_, by omega, by omega, by omega, by simp⟩, ?_, by simp, ⟨⟨?_, ⟨by simp, by simp, by simp⟩, by simp, fun _ _ => rfl, rfl⟩, trivial⟩, by simp, by omega, by omega, by omega, by simp⟩, rfl⟩, ⟨by simp, fun j hj _ => get_lt hj, fun j hj => .inr ?_, by simp⟩⟩
  · have q1 : ∀ k m : Nat, (m == m + (k + 1)) = false := fun k m => by rw [beq_eq_false_iff_ne]; omega
    have q2 : ∀ k m : Nat, (m + (k + 1) == m) = false := fun k m => by rw [beq_eq_false_iff_ne]; omega
    have d1 := q1 0 h.length
    have d2 := q1 1 h.length
    have d3 := q1 2 h.length
    have d4 := q1 3 h.length
    have f1 := q2 0 h.length
    have f2 := q2 1 h.length
    have f3 := q2 2 h.length
    have f4 := q2 3 h.length
    simp only [Nat.reduceAdd] at d1 d2 d3 d4 f1 f2 f3 f4
    rw [acw_hm (hKC _ _ T_trail_New_int) rfl]
    simp [runW_fin, F_trail_New_int, i_trail_New_int, c1, c2, c3, c4, o_mkm, d1, d2, d3, d4, f1, f2, f3, f4]
  · simp
  · simp
  · simp
  · simp
  · simp
  · simp [foot] at hj; omega
end Go.RR.TI
