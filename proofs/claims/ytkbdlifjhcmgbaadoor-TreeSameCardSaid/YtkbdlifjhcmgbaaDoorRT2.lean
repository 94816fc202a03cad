/- What puts nodes together: a tree, put in. -/
import Derived.Test.YtkbdlifjhcmgbaaDoorRT1
import Derived.Test.YtkbdlifjhcmgbaaDoorR5
set_option linter.unusedVariables false
set_option linter.unusedSimpArgs false
set_option linter.unusedVariables false
set_option linter.unusedSimpArgs false
set_option maxRecDepth 100000
set_option maxHeartbeats 4000000
namespace Go.RR
/-- what is done already -/
structure Dn (t out : List Nd) (dn : List Nat) : Prop where
  l : dn.length = t.length
  d : ∀ (j x : Nat), dn[j]? = some (x + 1) → x < out.length ∧ unf out x = unf t j
theorem Dn.more {t out e : List Nd} {dn : List Nat} (d : Dn t out dn) (g : Ahd (out ++ e)) : Dn t (out ++ e) dn := ⟨d.l, fun j x h => by
  obtain ⟨h1, h2⟩ := d.d j x h
  exact ⟨by rw [List.length_append]; omega, by rw [unf_pre g x h1]; exact h2⟩⟩
abbrev dnV (dn : List Nat) : List V := dn.map fun (x : Nat) => iv (x : Int)
end Go.RR
namespace Go.RR.M
open Go Go.RR Go.Lib
def SW (t : List Nd) (L : List UT) (sid mid did k : Nat) : Prop := ∀ (h : List Ob) (ov : V) (out : List Nd) (dn : List Nat), Shr h sid mid ov out → Good out → Sub L out → h[did]? = some (.row 1 (dnV dn)) → Dn t out dn →
  ∃ ov' h' dn', acw C n_tree_sharer_walk [.ptr sid 0 0 1, treeV t, iv k, .own did 0 t.length t.length] h = some (.ret (iv (shU (unf t k) out).2), h') ∧ Shr h' sid mid ov' (shU (unf t k) out).1 ∧ h'[did]? = some (.row 1 (dnV dn')) ∧ Dn t (shU (unf t k) out).1 dn' ∧ Keep h h' sid mid did ov ov'
theorem sw_l0 (t : List Nd) (L : List UT) (hc : Cl L) (htl : ∀ j, j < t.length → unf t j ∈ L) (i : Nat) (hi : i < t.length) (kids : List Int) (hk : ∀ k ∈ kids, 0 ≤ k ∧ k < i) (hkl : kids.length ≤ 64) (sid mid did : Nat) (hsw : ∀ k : Nat, (k : Int) ∈ kids → SW t L sid mid did k)
    (h0 : List Ob) (N : Nat) (hN : N = h0.length) (ov0 : V) (i1 : sid < N) (i2 : mid < N) (i3 : did < N) (kd pk : Int) :
    ∀ (d j : Nat) (out : List Nd) (ov : V) (dn : List Nat) (ks : List Int) (kv : V) (h : List Ob), j + d = kids.length → ks.length ≤ j → Shr h sid mid ov out → Good out → Sub L out → h[did]? = some (.row 1 (dnV dn)) → Dn t out dn → h[N]? = some (.row 3 [.agg [iv kd, iv pk, kv]]) → AccB (N + 1) h kv 1 (ks.map (V.int .i64)) → oidV ov ≠ some N → Keep h0 h sid mid did ov0 ov →
    ∃ ov' h' dn' kv', evw C y0 i_tree_sharer_walk_l0 [(0, .ptr sid 0 0 1), (1, treeV t), (2, iv i), (3, .own did 0 t.length t.length), (9, .ptr N 0 0 1), (37, intsV kids), (38, iv kids.length), (39, iv j)] h =
      some (.ext 0, [(0, .ptr sid 0 0 1), (1, treeV t), (2, iv i), (3, .own did 0 t.length t.length), (9, .ptr N 0 0 1), (37, intsV kids), (38, iv kids.length), (39, iv kids.length), (40, .bool false)], h') ∧
      Shr h' sid mid ov' (shL ((kids.drop j).map fun k => unf t k.toNat) out).1 ∧ h'[did]? = some (.row 1 (dnV dn')) ∧ Dn t (shL ((kids.drop j).map fun k => unf t k.toNat) out).1 dn' ∧ h'[N]? = some (.row 3 [.agg [iv kd, iv pk, kv']]) ∧ AccB (N + 1) h' kv' 1 ((ks ++ (shL ((kids.drop j).map fun k => unf t k.toNat) out).2).map (V.int .i64)) ∧ oidV ov' ≠ some N ∧ Keep h0 h' sid mid did ov0 ov'
  | 0, j, out, ov, dn, ks, kv, h, e, hks, s, g, sb, hd, hdn, hNr, a, ho, kp => by
    obtain rfl : j = kids.length := by omega
    rw [r_tree_sharer_walk_0, List.drop_length]
    refine ⟨ov, h, dn, kv, ?_, by simpa [shL] using s, hd, by simpa [shL] using hdn, hNr, by simpa [shL] using a, ho, kp⟩
    simp [b_tree_sharer_walk_0]
  | d + 1, j, out, ov, dn, ks, kv, h, e, hks, s, g, sb, hd, hdn, hNr, a, ho, kp => by
    have hlt : j < kids.length := by omega
    have h2 : (j : Int) < kids.length := by omega
    have hw1 := wrap_succ (i := j) (n := kids.length) hlt (by omega)
    have hK := hk kids[j] (List.getElem_mem hlt)
    obtain ⟨kn, hkn⟩ : ∃ kn : Nat, kids[j] = kn := ⟨kids[j].toNat, by omega⟩
    have h5 : kids[j]? = some (kn : Int) := by simp [hlt, hkn]
    have hmem := htl kn (by omega)
    obtain ⟨g1, -, -, -⟩ := shU_spec (unf t kn) out g
    have sb1 := shU_sub L hc (unf t kn) out g sb hmem
    obtain ⟨ov1, h1, dn1, kw, s1, hd1, hdn1, kp1⟩ := hsw kn (by rw [← hkn]; exact List.getElem_mem hlt) h ov out dn s g sb hd hdn
    rw [List.drop_eq_getElem_cons hlt, hkn, List.map_cons, Int.toNat_natCast]
    have hNl := (List.getElem?_eq_some_iff.1 hNr).1
    have hN1 : h1[N]? = some (.row 3 [.agg [iv kd, iv pk, kv]]) := by rw [kp1.k N hNl (by omega) (by omega) (by omega) ho]; exact hNr
    have ho1 : oidV ov1 ≠ some N := by
      rcases kp1.o with q | ⟨id, q, hid⟩
      · rw [q]; exact ho
      · rw [q]; intro q2; cases q2; omega
    have a1 : AccB (N + 1) h1 kv 1 (ks.map (V.int .i64)) := a.keep fun x r hx hr => by
      have hxl := (List.getElem?_eq_some_iff.1 hr).1
      rw [kp1.k x hxl (by omega) (by omega) (by omega) (fun q => by have := s.o.oid q; rw [hr] at this; cases this)]
      exact hr
    have kp2 : Keep h0 h1 sid mid did ov0 ov1 := kp.trans kp1
    have hN1l := (List.getElem?_eq_some_iff.1 hN1).1
    generalize hx : (shU (unf t kn) out).2 = x at *
    obtain ⟨kv1, w, e1, e2, e3, e5, e6⟩ := a1.app2 (b := 8) (y := .sl 1 [iv x]) (ys := [iv x]) (by omega) rfl (by simp only [List.length_cons, List.length_nil, List.length_map]; omega) (by simp only [List.length_cons, List.length_nil, List.length_map]; omega)
    obtain ⟨q1, q2, q3, q4⟩ := a1.good
    obtain ⟨p1, p2, p3, p4⟩ := e2.good
    obtain ⟨H2, hH2⟩ : ∃ H2, H2 = wr h1 w := ⟨_, rfl⟩
    rw [← hH2] at e2 e3 e6
    have low : ∀ y, y < N + 1 → H2[y]? = h1[y]? := fun y hy => e3 y (by omega) (fun q => by
      rcases a1 with ⟨rfl, -⟩ | ⟨id, hid, rfl, -⟩
      · cases q
      · cases q; omega)
    have hN2 : H2[N]? = some (.row 3 [.agg [iv kd, iv pk, kv]]) := by rw [low N (by omega)]; exact hN1
    have hN2l := (List.getElem?_eq_some_iff.1 hN2).1
    obtain ⟨H3, hH3⟩ : ∃ H3, H3 = H2.set N (.row 3 [.agg [iv kd, iv pk, kv1]]) := ⟨_, rfl⟩
    have low3 : ∀ y, y < N → H3[y]? = h1[y]? := fun y hy => by rw [hH3, List.getElem?_set_ne (by omega), low y (by omega)]
    have s3 : Shr H3 sid mid ov1 (shU (unf t kn) out).1 := by
      refine ⟨by rw [low3 sid i1]; exact s1.s, by rw [low3 mid i2]; exact s1.m, ?_⟩
      have so := s1.o
      rcases so with ⟨q, r⟩ | ⟨id, hid, q, r⟩
      · exact .inl ⟨q, r⟩
      · refine .inr ⟨id, hid, q, ?_⟩
        have n1 : id ≠ N := fun q2 => ho1 (by rw [q, ← q2]; rfl)
        rw [hH3, List.getElem?_set_ne (Ne.symm n1), e3 id (List.getElem?_eq_some_iff.1 r).1 (fun q2 => by have := a1.oid q2; rw [r] at this; cases this)]
        exact r
    have hd3 : H3[did]? = some (.row 1 (dnV dn1)) := by rw [low3 did i3]; exact hd1
    have hN3 : H3[N]? = some (.row 3 [.agg [iv kd, iv pk, kv1]]) := by rw [hH3]; simp [hN2l]
    have a3 : AccB (N + 1) H3 kv1 1 ((ks ++ [(x : Int)]).map (V.int .i64)) := by
      have : AccB (N + 1) H2 kv1 1 ((ks ++ [(x : Int)]).map (V.int .i64)) := by simpa using e2
      rw [hH3]
      exact this.keep fun y r hy hr => by rw [List.getElem?_set_ne (by omega)]; exact hr
    have kp3 : Keep h0 H3 sid mid did ov0 ov1 := by
      refine ⟨fun y hy k1 k2 k3 k4 => ?_, ?_, kp2.o⟩
      · rw [low3 y (by omega)]; exact kp2.k y hy k1 k2 k3 k4
      · rw [hH3, List.length_set]; have := kp2.l; omega
    obtain ⟨ov', h', dn', kv', ih, r1, r2, r3, r4, r5, r6, r7⟩ := sw_l0 t L hc htl i hi kids hk hkl sid mid did hsw h0 N hN ov0 i1 i2 i3 kd pk d (j + 1) (shU (unf t kn) out).1 ov1 dn1 (ks ++ [(x : Int)]) kv1 H3 (by omega) (by simp; omega) s3 g1 sb1 hd3 hdn1 hN3 a3 ho1 kp3
    simp only [Int.natCast_add, Int.cast_ofNat_Int] at ih
    refine ⟨ov', h', dn', kv', ?_, ?_, r2, ?_, r4, ?_, r6, r7⟩
    · have k4 : bsfL (.int .i64 0) [iv x] = some (.sl 1 [iv x]) := rfl
      have hH2' := hH2.symm
      have u1 : wr H2 (some (N, .row 3 [.agg [iv kd, iv pk, kv1]])) = H3 := by rw [wr_lt hN2l, hH3]
      rw [r_tree_sharer_walk_0, ← ih]
      simp [b_tree_sharer_walk_0, h2, hlt, h5, hkn, hNr, hN1, hN2, kw, k4, e1, hH2', u1, q1, q2, q3, q4, p1, p2, p3, p4, hw1]
    · rw [shL]; exact r1
    · rw [shL]; exact r3
    · rw [shL, hx]
      simpa using r5
end Go.RR.M
set_option linter.unusedVariables false
set_option linter.unusedSimpArgs false
set_option maxRecDepth 100000
set_option maxHeartbeats 4000000
namespace Go.RR.M
open Go Go.RR Go.Lib
theorem fz_node {B : Nat} {h : List Ob} {kv : V} {ks : List Int} (a : AccB B h kv 1 (ks.map (V.int .i64))) : ∃ kv2 h2, fz1 h kv = some (kv2, h2) ∧ (kv2 = intsV ks ∨ (kv2 = .nsl 1 ∧ ks = [])) ∧ (∀ j : Nat, (∀ r, h[j]? ≠ some (Ob.row 1 r)) → h2[j]? = h[j]?) ∧ (∀ j : Nat, j < B → h2[j]? = h[j]?) ∧ h2.length = h.length := by
  rcases a with ⟨rfl, q⟩ | ⟨id, hid, rfl, e⟩
  · refine ⟨.nsl 1, h, by simp, .inr ⟨rfl, by simpa using q⟩, fun _ _ => rfl, fun _ _ => rfl, rfl⟩
  · have hd : dataL (ks.map (V.int .i64)) = true := dataL_all fun x hx => by
      obtain ⟨y, -, rfl⟩ := List.mem_map.1 hx
      rfl
    have f := fz1_own e rfl hd
    refine ⟨intsV ks, h.set id .dead, f, .inl rfl, fun j hj => ?_, fun j hj => ?_, by simp⟩
    · have n1 : id ≠ j := fun q => hj _ (by rw [← q]; exact e)
      rw [List.getElem?_set_ne n1]
    · rw [List.getElem?_set_ne (by omega)]
theorem sharer_walk (t : List Nd) (L : List UT) (hm : mayT t = true) (hL : L.length ≤ 1000000) (hc : Cl L) (htl : ∀ j, j < t.length → unf t j ∈ L) (sid mid did : Nat) : ∀ i, i < t.length → SW t L sid mid did i := by
  intro i
  induction i using Nat.strongRecOn with
  | _ i ih =>
    intro hi h ov out dn s g sb hd hdn
    have ha := mayT_ahd hm
    have hks := ha i hi
    have hkl := mayT_kids hm i hi
    have hu := unf_eq ha hi
    have hfit := fits_kp (mayT_fits hm i hi)
    have htlen := (mayT_len hm).2
    have hi2 : (i : Int) < t.length := by omega
    have h3 : t[i]? = some t[i] := by simp [hi]
    have hdl : i < dn.length := by rw [hdn.l]; exact hi
    obtain ⟨x, hx⟩ : ∃ x, x = dn[i] := ⟨_, rfl⟩
    have hx1 : dn[i]? = some x := by simp [hdl, hx]
    have hx2 : (dnV dn)[i]? = some (iv (x : Int)) := by simp [hx1]
    have hl := hdn.l
    obtain ⟨DV, hDV⟩ : ∃ DV, DV = dnV dn := ⟨_, rfl⟩
    have hDl : DV.length = t.length := by rw [hDV]; simp [hl]
    rw [← hDV] at hx2 hd
    have hx3 : ∀ h : i < DV.length, DV[i]'h = iv (x : Int) := fun _ => (List.getElem?_eq_some_iff.1 hx2).2
    cases x with
    | succ x =>
      obtain ⟨y1, y2⟩ := hdn.d i x hx1
      have hsh := shU_in (unf t i) out x g y1 y2
      have hol := sb.len g
      rw [hsh]
      refine ⟨ov, h, dn, ?_, s, by rw [hd, hDV], hdn, .refl⟩
      have c1 : (0 : Int) < (x : Int) + 1 := by omega
      have w1 : IntKind.i64.wrap (x : Int) = x := wrap64 (by omega) (by omega)
      simp only [Int.natCast_add, Int.cast_ofNat_Int] at hx2 hx3
      rw [acw_hm (CT T_tree_sharer_walk) rfl]
      simp [runW_fin, F_tree_sharer_walk, i_tree_sharer_walk, hd, hx2, hx3, hi, hi2, hDl, c1, w1]
    | zero =>
      obtain ⟨kd, hkd⟩ : ∃ kd, kd = t[i].kind := ⟨_, rfl⟩
      obtain ⟨pk, hpk⟩ : ∃ pk, pk = t[i].pick := ⟨_, rfl⟩
      obtain ⟨kids, hkids⟩ : ∃ kids, kids = t[i].kids := ⟨_, rfl⟩
      rw [← hkids] at hks hkl hu
      rw [← hkd, ← hpk] at hfit hu
      have hni : t[i] = ⟨kd, pk, kids⟩ := by rw [hkd, hpk, hkids]
      rw [hni] at h3
      have h3' : ∀ h : i < t.length, t[i]'h = ⟨kd, pk, kids⟩ := fun _ => hni
      have hsl := (List.getElem?_eq_some_iff.1 s.s).1
      have hml := (List.getElem?_eq_some_iff.1 s.m).1
      have hdl2 := (List.getElem?_eq_some_iff.1 hd).1
      obtain ⟨h0, hh0⟩ : ∃ h0, h0 = h ++ [Ob.row 3 [.agg [iv kd, iv pk, .nsl 1]]] := ⟨_, rfl⟩
      have s0 : Shr h0 sid mid ov out := by rw [hh0]; exact ⟨get_some s.s, get_some s.m, s.o.more⟩
      have hd0 : h0[did]? = some (.row 1 (dnV dn)) := by rw [hh0, ← hDV]; exact get_some hd
      have hno : oidV ov ≠ some h.length := fun q => by
        have := (List.getElem?_eq_some_iff.1 (s.o.oid q)).1
        omega
      obtain ⟨ov1, h1, dn1, kv1, lp, r1, r2, r3, r4, r5, r6, r7⟩ := sw_l0 t L hc htl i hi kids hks hkl sid mid did (fun k hk => ih k (by have := hks k hk; omega) (by have := hks k hk; omega)) h h.length rfl ov hsl hml hdl2 kd pk kids.length 0 out ov dn [] (.nsl 1) h0 (by omega) (by simp) s0 g sb hd0 hdn (by rw [hh0]; simp) .nil hno ⟨fun y hy _ _ _ _ => by rw [hh0, get_lt hy], by rw [hh0]; simp, .inl rfl⟩
      simp only [List.drop_zero, List.nil_append, Int.cast_ofNat_Int] at lp r1 r3 r5
      obtain ⟨cs, hcs⟩ : ∃ cs, cs = kids.map fun k => unf t k.toNat := ⟨_, rfl⟩
      rw [← hcs] at hu r1 r3 r5
      obtain ⟨g1, -, gk, -⟩ := shL_spec cs out g
      have sb1 := shL_sub L hc cs out g sb (by
        intro c hcc
        rw [hcs] at hcc
        obtain ⟨k, hk, rfl⟩ := List.mem_map.1 hcc
        have := hks k hk
        exact htl _ (by omega))
      have hol := sb1.len g1
      have hrl : (shL cs out).2.length ≤ 64 := by
        have key : ∀ (cs : List UT) (out : List Nd), (shL cs out).2.length = cs.length := by
          intro cs
          induction cs with
          | nil => intro out; rw [shL]; rfl
          | cons u r ih => intro out; rw [shL]; simp [ih]
        rw [key, hcs, List.length_map]
        exact hkl
      obtain ⟨kv2, h2, fz, hkv, f1, f2, f3⟩ := fz_node r5
      have hbn : NdB ⟨kd, pk, (shL cs out).2⟩ := by
        refine ⟨?_, ?_, fun k hk => ?_, ?_⟩
        · show I64 kd
          unfold I64; omega
        · show I64 pk
          unfold I64; omega
        · have := gk k hk
          unfold I64; omega
        · show (shL cs out).2.length ≤ 1000000
          omega
      have s2 : Shr h2 sid mid ov1 (shL cs out).1 := by
        refine ⟨by rw [f2 sid (by omega)]; exact r1.s, by rw [f2 mid (by omega)]; exact r1.m, r1.o.keep fun y r _ hr => ?_⟩
        rw [f1 y (fun r2 q => by rw [hr] at q; cases q)]
        exact hr
      have hd2 : h2[did]? = some (.row 1 (dnV dn1)) := by rw [f2 did (by omega)]; exact r2
      obtain ⟨ov2, h4, kp, s4, kp4, kd4⟩ := put ⟨kd, pk, (shL cs out).2⟩ hbn kv2 hkv h2 sid mid ov1 (shL cs out).1 s2 (by omega) did
      have hpu : putN (shL cs out).1 ⟨kd, pk, (shL cs out).2⟩ = shU (unf t i) out := by rw [hu, shU]
      rw [hpu] at kp s4
      obtain ⟨g5, ⟨e5, he5⟩, h6, h7⟩ := shU_spec (unf t i) out g
      have hd1l := (List.getElem?_eq_some_iff.1 hd2).1
      have n1 : did ≠ sid := fun q => by have := s2.s; rw [← q, hd2] at this; cases this
      have n2 : did ≠ mid := fun q => by have := s2.m; rw [← q, hd2] at this; cases this
      have n3 : oidV ov1 ≠ some did := fun q => by have := s2.o.oid q; rw [hd2] at this; cases this
      have n4 : oidV ov2 ≠ some did := by
        rcases kp4.o with q | ⟨id, q, hid⟩
        · rw [q]; exact n3
        · rw [q]; intro q2; cases q2; omega
      have hd4 : h4[did]? = some (.row 1 (dnV dn1)) := by rw [kd4 hd1l n1 n2 n3]; exact hd2
      have hd4l := (List.getElem?_eq_some_iff.1 hd4).1
      generalize hm2 : (shU (unf t i) out).2 = m at *
      have hl1 := r3.l
      obtain ⟨h5, hh5⟩ : ∃ h5, h5 = h4.set did (.row 1 (dnV (dn1.set i (m + 1)))) := ⟨_, rfl⟩
      have hd5 : h5[did]? = some (.row 1 (dnV (dn1.set i (m + 1)))) := by rw [hh5]; simp [hd4l]
      have sb5 := shU_sub L hc (unf t i) out g sb (htl i hi)
      have hol5 := sb5.len g5
      refine ⟨ov2, h5, dn1.set i (m + 1), ?_, ?_, hd5, ?_, ?_⟩
      · simp only [Int.cast_ofNat_Int] at hx2 hx3
        rw [hh0] at lp
        obtain ⟨q1, q2, q3, q4⟩ := r5.good
        obtain ⟨D4, hD4⟩ : ∃ D4, D4 = dnV dn1 := ⟨_, rfl⟩
        have hD4l : D4.length = t.length := by rw [hD4, List.length_map]; exact hl1
        obtain ⟨y, hy⟩ : ∃ y : Nat, ∀ h : i < D4.length, D4[i]'h = .int .i64 (y : Int) := ⟨dn1[i]'(by omega), fun _ => by simp [hD4, dnV]⟩
        rw [← hD4] at hd4
        have e5 : dnV (dn1.set i (m + 1)) = D4.set i (iv ((m : Int) + 1)) := by
          rw [hD4]
          simp [dnV, List.map_set]
        rw [e5] at hd5 hh5
        have u1 : wr h4 (some (did, .row 1 (D4.set i (iv ((m : Int) + 1))))) = h5 := by rw [wr_lt hd4l, hh5]
        have w1 : IntKind.i64.wrap ((m : Int) + 1) = (m : Int) + 1 := wrap64 (by omega) (by omega)
        have w2 : IntKind.i64.wrap (m : Int) = m := wrap64 (by omega) (by omega)
        rw [acw_hm (CT T_tree_sharer_walk) rfl]
        simp [runW_fin, F_tree_sharer_walk, i_tree_sharer_walk, hd, hx2, hx3, hi, hi2, hDl, h3, h3', lp, r4, fz, kp, hd4, hD4l, hy, u1, hd5, w1, w2, q1, q2, q3, q4]
      · refine ⟨by rw [hh5, List.getElem?_set_ne n1]; exact s4.s, by rw [hh5, List.getElem?_set_ne n2]; exact s4.m, ?_⟩
        rw [hh5]
        exact s4.o.set hd4 (by omega)
      · refine ⟨by rw [List.length_set]; exact r3.l, fun j x hj => ?_⟩
        by_cases c : i = j
        · subst c
          rw [List.getElem?_set_self (by omega)] at hj
          cases hj
          exact ⟨h6, h7⟩
        · rw [List.getElem?_set_ne c] at hj
          obtain ⟨y1, y2⟩ := r3.d j x hj
          obtain ⟨-, ⟨e6, he6⟩, -⟩ := putN_spec (n := ⟨kd, pk, (shL cs out).2⟩) g1 gk
          rw [hpu] at he6
          have g5a := g5.ahd
          rw [he6] at g5a ⊢
          exact ⟨by rw [List.length_append]; omega, by rw [unf_pre g5a x y1]; exact y2⟩
      · have k1 : Keep h h2 sid mid did ov ov1 := by
          refine ⟨fun y hy a1 a2 a3 a4 => by rw [f2 y (by omega)]; exact r7.k y hy a1 a2 a3 a4, by rw [f3]; exact r7.l, r7.o⟩
        have k2 := k1.trans kp4
        refine ⟨fun y hy a1 a2 a3 a4 => ?_, by rw [hh5, List.length_set]; exact k2.l, k2.o⟩
        rw [hh5, List.getElem?_set_ne (Ne.symm a3)]
        exact k2.k y hy a1 a2 a3 a4
end Go.RR.M
set_option linter.unusedVariables false
set_option linter.unusedSimpArgs false
set_option maxRecDepth 100000
set_option maxHeartbeats 4000000
namespace Go.RR
def rootU (t : List Nd) : UT := unf t (t.length - 1)
def shareT (t : List Nd) : List Nd := if mayT t = true then (shU (rootU t) []).1 else []
theorem root_mem {t : List Nd} (hm : mayT t = true) : rootU t ∈ alls t := alls_mem (by have := (mayT_len hm).1; omega)
/-- what holds of what is shared -/
theorem share_spec {t : List Nd} (hm : mayT t = true) : Good (shareT t) ∧ Sub (alls t) (shareT t) ∧ (shU (rootU t) []).2 < (shareT t).length ∧ unf (shareT t) (shU (rootU t) []).2 = rootU t := by
  have h := shU_spec (rootU t) [] Good.nil
  have h2 := shU_sub (alls t) (alls_cl (mayT_ahd hm)) (rootU t) [] Good.nil .nil (root_mem hm)
  unfold shareT
  rw [if_pos hm]
  exact ⟨h.1, h2, h.2.2.1, h.2.2.2⟩
/-- kinds and picks of nodes that are of some trees -/
theorem sub_fits {t out : List Nd} (hm : mayT t = true) (g : Ahd out) (sb : Sub (alls t) out) (i : Nat) (hi : i < out.length) : fitsN out[i].kind out[i].pick out[i].kids.length = true := by
  have h := sb i hi
  obtain ⟨j, hj, e⟩ := List.mem_map.1 h
  have hj := List.mem_range.1 hj
  rw [unf_eq g hi, unf_eq (mayT_ahd hm) hj] at e
  injection e with e1 e2 e3
  have := mayT_fits hm j hj
  have e4 := congrArg List.length e3
  simp only [List.length_map] at e4
  rw [e1, e2, e4] at this
  exact this
theorem share_may {t : List Nd} (hm : mayT t = true) : mayT (shareT t) = true := by
  obtain ⟨g, sb, h1, -⟩ := share_spec hm
  refine mayT_iff.2 ⟨by omega, ?_, fun j hj => nodeOK_iff.2 ⟨sub_fits hm g.ahd sb j hj, g.ahd j hj⟩⟩
  have := sb.len g
  rw [alls_len] at this
  have := (mayT_len hm).2
  omega
theorem share_len {t : List Nd} (hm : mayT t = true) : (shareT t).length ≤ t.length := by
  obtain ⟨g, sb, -, -⟩ := share_spec hm
  have := sb.len g
  rwa [alls_len] at this
theorem may_ndB {t : List Nd} (hm : mayT t = true) : ∀ n ∈ t, NdB n := by
  intro n hn
  obtain ⟨i, hi, rfl⟩ := List.mem_iff_getElem.1 hn
  have h1 := fits_kp (mayT_fits hm i hi)
  have h2 := mayT_kids hm i hi
  have h3 := (mayT_len hm).2
  refine ⟨by unfold I64; omega, by unfold I64; omega, fun k hk => ?_, by omega⟩
  have := mayT_ahd hm i hi k hk
  unfold I64; omega
end Go.RR
namespace Go.RR.M
open Go Go.RR Go.Lib
@[simp] theorem mp_cells {i : Nat} : (V.mp i).cells = [.mp i] := rfl
@[simp] theorem mp_und {i : Nat} : (V.mp i).isUnd = false := rfl
@[simp] theorem mp_tup {i : Nat} : (V.mp i).isTup = false := rfl
theorem o_mkm {nid : Nat} {h : List Ob} : opJ nid h .mkm [] = some (.mp nid, some (nid, .map [] 0)) := rfl
theorem tree_Share (t : List Nd) (ht : t.length ≤ 4611686018427387904) (h : List Ob) : acw C n_tree_Share [treeV t] h = some (.ret (treeV (shareT t)), h) := by
  have km := tree_May t ht
  cases hm : mayT t with
  | false =>
    rw [hm] at km
    unfold shareT
    rw [hm, if_neg (by simp)]
    refine acw_pure (a2 := [treeV t]) (h' := []) (v := .nsl 3) (CT T_tree_Share) rfl rfl ?_ rfl (by simp)
    simp [runW_fin, F_tree_Share, i_tree_Share, km]
  | true =>
    rw [hm] at km
    obtain ⟨p1, p2⟩ := mayT_len hm
    have hL : (alls t).length ≤ 1000000 := by rw [alls_len]; omega
    obtain ⟨m, hm2⟩ : ∃ m, t.length = m + 1 := ⟨t.length - 1, by omega⟩
    obtain ⟨ov', h', dn', kw, s1, -, -, -⟩ := sharer_walk t (alls t) hm hL (alls_cl (mayT_ahd hm)) (fun j hj => alls_mem hj) 1 0 2 m (by omega) [.map [] 0, .row 2 [.agg [.nsl 3, .mp 0]], .row 1 (dnV (List.replicate t.length 0))] (.nsl 3) [] (List.replicate t.length 0) ⟨rfl, rfl, .nil⟩ Good.nil .nil rfl ⟨by simp, fun j x hx => by
      obtain ⟨hj, e⟩ := List.getElem?_eq_some_iff.1 hx
      simp at e⟩
    have hr : unf t m = rootU t := by unfold rootU; rw [hm2]; rfl
    have hsh : (shU (rootU t) []).1 = shareT t := by unfold shareT; rw [if_pos hm]
    rw [hr, hsh] at s1
    have kz : frz h' fdepth ov' = some (treeV (shareT t)) := s1.o.frz 11 (frz_nodes _ 7 _)
    refine acw_pure (a2 := [treeV t]) (h' := h') (v := ov') (CT T_tree_Share) rfl rfl ?_ kz (by simp)
    have w1 : IntKind.i64.wrap (m : Int) = m := wrap64 (by omega) (by omega)
    have er : dnV (List.replicate t.length 0) = List.replicate t.length (.int .i64 0) := by simp [dnV]
    obtain ⟨q1, q2, q3, q4⟩ := s1.o.good
    have ss := s1.s
    rw [er] at kw
    rw [hm2] at kw
    have c1 : (0 : Int) ≤ (m : Int) + 1 := by omega
    have c2 : ((m : Int) + 1) * 8 ≤ 70368744177664 := by omega
    have c3 : (m : Int) + 1 ≤ 70368744177664 := by omega
    simp [runW_fin, F_tree_Share, i_tree_Share, o_mkm, km, hm2, kw, w1, ss, q1, q2, q3, q4, c1, c2, c3]
theorem same_1 (n m : Nd) (hn : NdB n) (hm : NdB m) (h : List Ob) : acw C n_tree_Same_1 [nodeV n, nodeV m] h = some (.ret (.bool (decide (n = m))), h) := by
  refine acw_ex (v := .bool (decide (n = m))) (CT T_tree_Same_1) rfl rfl (fun _ => rfl) (by simp) ?_
  have k1 := tree_text n hn (intsV n.kids) (.inl rfl)
  have k2 := tree_text m hm (intsV m.kids) (.inl rfl)
  have e : (tx n == tx m) = decide (n = m) := by
    by_cases c : n = m
    · subst c; simp
    · have : ¬ (tx n = tx m) := fun e => c (tx_inj e)
      simp [c, this]
  simp [runW_fin, F_tree_Same_1, i_tree_Same_1, k1, k2, e]
theorem all2_dec : ∀ (l m : List Nd), all2 (fun a b => decide (a = b)) l m = decide (l = m)
  | [], [] => by simp [all2]
  | [], y :: m => by simp [all2]
  | x :: l, [] => by simp [all2]
  | x :: l, y :: m => by
    simp only [all2, all2_dec l m, List.cons.injEq]
    rw [Bool.decide_and]
def sameT (a b : List Nd) : Bool := decide (0 < (shareT a).length) && decide (shareT a = shareT b)
theorem share_ndB (t : List Nd) : ∀ n ∈ shareT t, NdB n := by
  intro n hn
  cases hm : mayT t with
  | false => unfold shareT at hn; rw [hm, if_neg (by simp)] at hn; simp at hn
  | true => exact may_ndB (share_may hm) n hn
theorem tree_Same (a b : List Nd) (ha : a.length ≤ 4611686018427387904) (hb : b.length ≤ 4611686018427387904) (h : List Ob) : acw C n_tree_Same [treeV a, treeV b] h = some (.ret (.bool (sameT a b)), h) := by
  have k1 := tree_Share a ha
  have k2 := tree_Share b hb
  have hl : (shareT a).length ≤ 1000000 := by
    cases hm : mayT a with
    | false => unfold shareT; rw [hm, if_neg (by simp)]; simp
    | true => have := share_len hm; have := (mayT_len hm).2; omega
  have k3 : ∀ h, acw C n_slices_EqualFunc_tree_Tree_tree_Tree_tree_Node_tree_Node [treeV (shareT a), treeV (shareT b), .fn (.func n_tree_Same_1) [] []] h = some (.ret (.bool (decide (shareT a = shareT b))), h) := fun h => by
    rw [← all2_dec]
    exact equalFunc (enc := nodeV) (sz := 3) (z := .agg [.int .i64 0, .int .i64 0, .nsl 1]) (g := n_tree_Same_1) (first := []) (cap := []) (CT T_slices_EqualFunc_tree_Tree_tree_Tree_tree_Node_tree_Node) (shareT a) (shareT b) (by omega) (fun _ => ⟨rfl, rfl⟩) ⟨_, rfl, rfl⟩ rfl (fun x hx y hy h => same_1 x y (share_ndB a x hx) (share_ndB b y hy) h)
  refine acw_ex (v := .bool (sameT a b)) (CT T_tree_Same) rfl rfl (fun _ => rfl) (by simp) ?_
  unfold sameT
  generalize shareT a = x at *
  generalize shareT b = y at *
  by_cases c : 0 < x.length
  · have ci : (0 : Int) < x.length := by omega
    simp [runW_fin, F_tree_Same, i_tree_Same, k1, k2, k3, c, ci]
  · have ci : ¬ ((0 : Int) < x.length) := by omega
    simp [runW_fin, F_tree_Same, i_tree_Same, k1, k2, k3, c, ci]
end Go.RR.M
set_option linter.unusedVariables false
set_option linter.unusedSimpArgs false
set_option maxRecDepth 100000
set_option maxHeartbeats 4000000
namespace Go.RR
theorem Shr.more {h l : List Ob} {sid mid : Nat} {ov : V} {out : List Nd} (s : Shr h sid mid ov out) : Shr (h ++ l) sid mid ov out := ⟨get_some s.s, get_some s.m, s.o.more⟩
end Go.RR
namespace Go.RR.M
open Go Go.RR Go.Lib
theorem pl_l0 (L : List UT) (hL : L.length ≤ 1000000) (hc : Cl L) (ts : List (List Nd)) (htm : ∀ t ∈ ts, mayT t = true) (htl : ∀ t ∈ ts, ∀ j, j < t.length → unf t j ∈ L) (hkl : ts.length ≤ 64) (sid mid N : Nat) (i1 : sid < N) (i2 : mid < N) (kd pk : Int) :
    ∀ (d j : Nat) (out : List Nd) (ov : V) (ks : List Int) (kv : V) (h : List Ob), j + d = ts.length → ks.length ≤ j → Shr h sid mid ov out → Good out → Sub L out → h[N]? = some (.row 3 [.agg [iv kd, iv pk, kv]]) → AccB (N + 1) h kv 1 (ks.map (V.int .i64)) → oidV ov ≠ some N →
    ∃ ov' h' kv', evw C y0 i_tree_Plant_l0 [(8, .ptr sid 0 0 1), (9, .ptr N 0 0 1), (28, .sl 1 (ts.map treeV)), (29, iv ts.length), (30, iv j)] h =
      some (.ext 0, [(8, .ptr sid 0 0 1), (9, .ptr N 0 0 1), (28, .sl 1 (ts.map treeV)), (29, iv ts.length), (30, iv ts.length), (31, .bool false)], h') ∧
      Shr h' sid mid ov' (shL ((ts.drop j).map rootU) out).1 ∧ h'[N]? = some (.row 3 [.agg [iv kd, iv pk, kv']]) ∧ AccB (N + 1) h' kv' 1 ((ks ++ (shL ((ts.drop j).map rootU) out).2).map (V.int .i64)) ∧ oidV ov' ≠ some N
  | 0, j, out, ov, ks, kv, h, e, hks, s, g, sb, hNr, a, ho => by
    obtain rfl : j = ts.length := by omega
    rw [r_tree_Plant_0, List.drop_length]
    refine ⟨ov, h, kv, ?_, by simpa [shL] using s, hNr, by simpa [shL] using a, ho⟩
    simp [b_tree_Plant_0]
  | d + 1, j, out, ov, ks, kv, h, e, hks, s, g, sb, hNr, a, ho => by
    have hlt : j < ts.length := by omega
    have h2 : (j : Int) < ts.length := by omega
    have hw1 := wrap_succ (i := j) (n := ts.length) hlt (by omega)
    have hmem := List.getElem_mem hlt
    obtain ⟨t, ht⟩ : ∃ t, t = ts[j] := ⟨_, rfl⟩
    rw [← ht] at hmem
    have hm := htm t hmem
    have htj := htl t hmem
    obtain ⟨p1, p2⟩ := mayT_len hm
    obtain ⟨m, hm2⟩ : ∃ m, t.length = m + 1 := ⟨t.length - 1, by omega⟩
    have hr : unf t m = rootU t := by unfold rootU; rw [hm2]; rfl
    have h5 : ts[j]? = some t := by simp [hlt, ht]
    have h6 : ∀ h : j < ts.length, ts[j]'h = t := fun _ => ht.symm
    obtain ⟨g1, -, -, -⟩ := shU_spec (rootU t) out g
    have sb1 := shU_sub L hc (rootU t) out g sb (htj _ (by omega))
    obtain ⟨ha, hha⟩ : ∃ ha, ha = h ++ [Ob.row 1 (dnV (List.replicate t.length 0))] := ⟨_, rfl⟩
    have sa : Shr ha sid mid ov out := by rw [hha]; exact s.more
    obtain ⟨ov1, h1, dn1, kw, s1, hd1, hdn1, kp1⟩ := sharer_walk t L hm hL hc htj sid mid h.length m (by omega) ha ov out (List.replicate t.length 0) sa g sb (by rw [hha]; simp) ⟨by simp, fun j x hx => by
      obtain ⟨hj, e⟩ := List.getElem?_eq_some_iff.1 hx
      simp at e⟩
    rw [List.drop_eq_getElem_cons hlt, ← ht, List.map_cons]
    rw [hr] at kw s1
    have hNl := (List.getElem?_eq_some_iff.1 hNr).1
    have hal : ha.length = h.length + 1 := by rw [hha]; simp
    have hN0 : ha[N]? = some (.row 3 [.agg [iv kd, iv pk, kv]]) := by rw [hha]; exact get_some hNr
    have hN1 : h1[N]? = some (.row 3 [.agg [iv kd, iv pk, kv]]) := by rw [kp1.k N (by omega) (by omega) (by omega) (by omega) ho]; exact hN0
    have ho1 : oidV ov1 ≠ some N := by
      rcases kp1.o with q | ⟨id, q, hid⟩
      · rw [q]; exact ho
      · rw [q]; intro q2; cases q2; omega
    have a1 : AccB (N + 1) h1 kv 1 (ks.map (V.int .i64)) := a.keep fun x r hx hr => by
      have hxl := (List.getElem?_eq_some_iff.1 hr).1
      rw [kp1.k x (by omega) (by omega) (by omega) (by omega) (fun q => by have := s.o.oid q; rw [hr] at this; cases this), hha]
      exact get_some hr
    have hN1l := (List.getElem?_eq_some_iff.1 hN1).1
    generalize hx : (shU (rootU t) out).2 = x at *
    obtain ⟨kv1, w, e1, e2, e3, e5, e6⟩ := a1.app2 (b := 8) (y := .sl 1 [iv x]) (ys := [iv x]) (by omega) rfl (by simp only [List.length_cons, List.length_nil, List.length_map]; omega) (by simp only [List.length_cons, List.length_nil, List.length_map]; omega)
    obtain ⟨q1, q2, q3, q4⟩ := a1.good
    obtain ⟨p1', p2', p3, p4⟩ := e2.good
    obtain ⟨H2, hH2⟩ : ∃ H2, H2 = wr h1 w := ⟨_, rfl⟩
    rw [← hH2] at e2 e3 e6
    have low : ∀ y, y < N + 1 → H2[y]? = h1[y]? := fun y hy => e3 y (by omega) (fun q => by
      rcases a1 with ⟨rfl, -⟩ | ⟨id, hid, rfl, -⟩
      · cases q
      · cases q; omega)
    have hN2 : H2[N]? = some (.row 3 [.agg [iv kd, iv pk, kv]]) := by rw [low N (by omega)]; exact hN1
    have hN2l := (List.getElem?_eq_some_iff.1 hN2).1
    obtain ⟨H3, hH3⟩ : ∃ H3, H3 = H2.set N (.row 3 [.agg [iv kd, iv pk, kv1]]) := ⟨_, rfl⟩
    have low3 : ∀ y, y < N → H3[y]? = h1[y]? := fun y hy => by rw [hH3, List.getElem?_set_ne (by omega), low y (by omega)]
    have s3 : Shr H3 sid mid ov1 (shU (rootU t) out).1 := by
      refine ⟨by rw [low3 sid i1]; exact s1.s, by rw [low3 mid i2]; exact s1.m, ?_⟩
      have so := s1.o
      rcases so with ⟨q, r⟩ | ⟨id, hid, q, r⟩
      · exact .inl ⟨q, r⟩
      · refine .inr ⟨id, hid, q, ?_⟩
        have n1 : id ≠ N := fun q2 => ho1 (by rw [q, ← q2]; rfl)
        rw [hH3, List.getElem?_set_ne (Ne.symm n1), e3 id (List.getElem?_eq_some_iff.1 r).1 (fun q2 => by have := a1.oid q2; rw [r] at this; cases this)]
        exact r
    have hN3 : H3[N]? = some (.row 3 [.agg [iv kd, iv pk, kv1]]) := by rw [hH3]; simp [hN2l]
    have a3 : AccB (N + 1) H3 kv1 1 ((ks ++ [(x : Int)]).map (V.int .i64)) := by
      have : AccB (N + 1) H2 kv1 1 ((ks ++ [(x : Int)]).map (V.int .i64)) := by simpa using e2
      rw [hH3]
      exact this.keep fun y r hy hr => by rw [List.getElem?_set_ne (by omega)]; exact hr
    obtain ⟨ov', h', kv', ih, r1, r4, r5, r6⟩ := pl_l0 L hL hc ts htm htl hkl sid mid N i1 i2 kd pk d (j + 1) (shU (rootU t) out).1 ov1 (ks ++ [(x : Int)]) kv1 H3 (by omega) (by simp; omega) s3 g1 sb1 hN3 a3 ho1
    simp only [Int.natCast_add, Int.cast_ofNat_Int] at ih
    refine ⟨ov', h', kv', ?_, ?_, r4, ?_, r6⟩
    · have k4 : bsfL (.int .i64 0) [iv x] = some (.sl 1 [iv x]) := rfl
      have hH2' := hH2.symm
      have u1 : wr H2 (some (N, .row 3 [.agg [iv kd, iv pk, kv1]])) = H3 := by rw [wr_lt hN2l, hH3]
      have er : dnV (List.replicate t.length 0) = List.replicate t.length (.int .i64 0) := by simp [dnV]
      rw [hha, er] at kw
      rw [hm2] at kw
      have hNs : ∀ l, (h ++ l)[N]? = some (.row 3 [.agg [iv kd, iv pk, kv]]) := fun l => get_some hNr
      have w1 : IntKind.i64.wrap (m : Int) = m := wrap64 (by omega) (by omega)
      have c1 : (0 : Int) ≤ (m : Int) + 1 := by omega
      have c2 : ((m : Int) + 1) * 8 ≤ 70368744177664 := by omega
      have c3 : (m : Int) + 1 ≤ 70368744177664 := by omega
      rw [r_tree_Plant_0, ← ih]
      simp [b_tree_Plant_0, h2, hlt, h5, h6, hm2, w1, c1, c2, c3, hNr, hNs, hN1, hN2, kw, k4, e1, hH2', u1, q1, q2, q3, q4, p1', p2', p3, p4, hw1]
    · rw [shL]; exact r1
    · rw [shL, hx]
      simpa using r5
end Go.RR.M
set_option linter.unusedVariables false
set_option linter.unusedSimpArgs false
set_option maxRecDepth 100000
set_option maxHeartbeats 4000000
namespace Go.RR
def plOK (kind pick : Int) (ts : List (List Nd)) : Bool := fitsN kind pick ts.length && ts.all mayT
def plU (kind pick : Int) (ts : List (List Nd)) : UT := .nd kind pick (ts.map rootU)
def plT (kind pick : Int) (ts : List (List Nd)) : List Nd := if plOK kind pick ts = true then (shU (plU kind pick ts) []).1 else []
def plE (kind pick : Int) (ts : List (List Nd)) : Int := if plOK kind pick ts = true then 0 else 1
/-- all trees of some trees -/
def plL (kind pick : Int) (ts : List (List Nd)) : List UT := (ts.map alls).flatten ++ [plU kind pick ts]
theorem plOK_iff {kind pick : Int} {ts : List (List Nd)} : plOK kind pick ts = true ↔ fitsN kind pick ts.length = true ∧ ∀ t ∈ ts, mayT t = true := by
  simp [plOK]
theorem fl_mem {ts : List (List Nd)} {t : List Nd} (ht : t ∈ ts) {u : UT} (hu : u ∈ alls t) : u ∈ (ts.map alls).flatten := List.mem_flatten.2 ⟨alls t, List.mem_map.2 ⟨t, ht, rfl⟩, hu⟩
theorem plL_cl {kind pick : Int} {ts : List (List Nd)} (h : ∀ t ∈ ts, mayT t = true) : Cl (plL kind pick ts) := by
  intro k p cs hm c hc
  refine List.mem_append_left _ ?_
  rcases List.mem_append.1 hm with hm | hm
  · obtain ⟨l, hl, hu⟩ := List.mem_flatten.1 hm
    obtain ⟨t, ht, rfl⟩ := List.mem_map.1 hl
    exact fl_mem ht (alls_cl (mayT_ahd (h t ht)) k p cs hu c hc)
  · have e := List.mem_singleton.1 hm
    unfold plU at e
    injection e with e1 e2 e3
    subst e3
    obtain ⟨t, ht, rfl⟩ := List.mem_map.1 hc
    exact fl_mem ht (root_mem (h t ht))
theorem fl_len {ts : List (List Nd)} (h : ∀ t ∈ ts, t.length ≤ 1000) : (ts.map alls).flatten.length ≤ 1000 * ts.length := by
  induction ts with
  | nil => simp
  | cons t r ih =>
    have h1 := h t (by simp)
    have h2 := ih fun x hx => h x (by simp [hx])
    simp only [List.map_cons, List.flatten_cons, List.length_append, alls_len, List.length_cons]
    omega
theorem plL_len {kind pick : Int} {ts : List (List Nd)} (h : ∀ t ∈ ts, t.length ≤ 1000) (hl : ts.length ≤ 64) : (plL kind pick ts).length ≤ 64001 := by
  have := fl_len h
  unfold plL
  simp only [List.length_append, List.length_singleton]
  omega
theorem plL_mem {kind pick : Int} {ts : List (List Nd)} : ∀ t ∈ ts, ∀ j, j < t.length → unf t j ∈ plL kind pick ts := fun t ht j hj => List.mem_append_left _ (fl_mem ht (alls_mem hj))
theorem plL_root {kind pick : Int} {ts : List (List Nd)} : plU kind pick ts ∈ plL kind pick ts := List.mem_append_right _ (by simp)
end Go.RR
namespace Go.RR.M
open Go Go.RR Go.Lib
theorem plant_1 (t : List Nd) (ht : t.length ≤ 4611686018427387904) (h : List Ob) : acw C n_tree_Plant_1 [treeV t] h = some (.ret (.bool (!mayT t)), h) := by
  have km := tree_May t ht
  refine acw_ex (v := .bool (!mayT t)) (CT T_tree_Plant_1) rfl rfl (fun _ => rfl) (by simp) ?_
  simp [runW_fin, F_tree_Plant_1, i_tree_Plant_1, km]
theorem tree_Plant (kind pick : Int) (ts : List (List Nd)) (hl : ∀ t ∈ ts, t.length ≤ 1000) (hn : ts.length ≤ 1000) (h : List Ob) : acw C n_tree_Plant [iv kind, iv pick, .sl 1 (ts.map treeV)] h = some (.ret (.tup [treeV (plT kind pick ts), iv (plE kind pick ts)]), h) := by
  have kf := tree_fits kind pick ts.length
  have kc : ∀ h, acw C n_slices_ContainsFunc_stree_Tree_tree_Tree [.sl 1 (ts.map treeV), .fn (.func n_tree_Plant_1) [] []] h = some (.ret (.bool (ts.any fun t => !mayT t)), h) := fun h =>
    containsFunc (enc := treeV) (ag := false) (sz := 1) (g := n_tree_Plant_1) (first := []) (cap := []) (CT T_slices_IndexFunc_stree_Tree_tree_Tree) (CT T_slices_ContainsFunc_stree_Tree_tree_Tree) ts (by omega) (fun _ _ => elt_sl) rfl (fun _ => rfl) (fun t ht => plant_1 t (by have := hl t ht; omega) [])
  cases hf : fitsN kind pick ts.length with
  | false =>
    rw [hf] at kf
    have e1 : plOK kind pick ts = false := by simp [plOK, hf]
    unfold plT plE
    rw [e1, if_neg (by simp), if_neg (by simp)]
    refine acw_pure (a2 := [iv kind, iv pick, .sl 1 (ts.map treeV)]) (h' := []) (v := .tup [.nsl 3, iv 1]) (CT T_tree_Plant) rfl rfl ?_ rfl (by simp)
    simp [runW_fin, F_tree_Plant, i_tree_Plant, kf]
  | true =>
    rw [hf] at kf
    cases ha : ts.any fun t => !mayT t with
    | true =>
      rw [ha] at kc
      have e1 : plOK kind pick ts = false := by
        obtain ⟨t, ht, e⟩ := List.any_eq_true.1 ha
        cases hp : plOK kind pick ts with
        | false => rfl
        | true =>
          have := (plOK_iff.1 hp).2 t ht
          rw [this] at e
          cases e
      unfold plT plE
      rw [e1, if_neg (by simp), if_neg (by simp)]
      refine acw_pure (a2 := [iv kind, iv pick, .sl 1 (ts.map treeV)]) (h' := []) (v := .tup [.nsl 3, iv 1]) (CT T_tree_Plant) rfl rfl ?_ rfl (by simp)
      simp [runW_fin, F_tree_Plant, i_tree_Plant, kf, kc]
    | false =>
      rw [ha] at kc
      have htm : ∀ t ∈ ts, mayT t = true := fun t ht => by
        have := List.any_eq_false.1 ha t ht
        simpa using this
      have e1 : plOK kind pick ts = true := plOK_iff.2 ⟨hf, htm⟩
      have hkl : ts.length ≤ 64 := fits_kids hf
      have hfit := fits_kp hf
      obtain ⟨L, hLd⟩ : ∃ L, L = plL kind pick ts := ⟨_, rfl⟩
      have hL : L.length ≤ 64001 := by rw [hLd]; exact plL_len hl hkl
      have hc : Cl L := by rw [hLd]; exact plL_cl htm
      have htl : ∀ t ∈ ts, ∀ j, j < t.length → unf t j ∈ L := by rw [hLd]; exact plL_mem
      have hroot : plU kind pick ts ∈ L := by rw [hLd]; exact plL_root
      obtain ⟨ov1, h1, kv1, lp, r1, r4, r5, r6⟩ := pl_l0 L (by omega) hc ts htm htl hkl 1 0 2 (by omega) (by omega) kind pick ts.length 0 [] (.nsl 3) [] (.nsl 1) [.map [] 0, .row 2 [.agg [.nsl 3, .mp 0]], .row 3 [.agg [iv kind, iv pick, .nsl 1]]] (by omega) (by simp) ⟨rfl, rfl, .nil⟩ Good.nil .nil rfl .nil (by simp [oidV])
      simp only [List.drop_zero, List.nil_append, Int.cast_ofNat_Int] at lp r1 r5
      obtain ⟨cs, hcs⟩ : ∃ cs, cs = ts.map rootU := ⟨_, rfl⟩
      rw [← hcs] at r1 r5
      have hpu : plU kind pick ts = .nd kind pick cs := by rw [hcs]; rfl
      obtain ⟨g1, -, gk, -⟩ := shL_spec cs [] Good.nil
      have sb1 := shL_sub L hc cs [] Good.nil .nil (by rw [hpu] at hroot; exact hc _ _ _ hroot)
      have hol := sb1.len g1
      have hrl : (shL cs []).2.length ≤ 64 := by
        have key : ∀ (cs : List UT) (out : List Nd), (shL cs out).2.length = cs.length := by
          intro cs
          induction cs with
          | nil => intro out; rw [shL]; rfl
          | cons u r ih => intro out; rw [shL]; simp [ih]
        rw [key, hcs, List.length_map]
        exact hkl
      obtain ⟨kv2, h2, fz, hkv, f1, f2, f3⟩ := fz_node r5
      have hbn : NdB ⟨kind, pick, (shL cs []).2⟩ := by
        refine ⟨?_, ?_, fun k hk => ?_, ?_⟩
        · show I64 kind
          unfold I64; omega
        · show I64 pick
          unfold I64; omega
        · have := gk k hk
          unfold I64; omega
        · show (shL cs []).2.length ≤ 1000000
          omega
      have s2 : Shr h2 1 0 ov1 (shL cs []).1 := by
        refine ⟨by rw [f2 1 (by omega)]; exact r1.s, by rw [f2 0 (by omega)]; exact r1.m, r1.o.keep fun y r _ hr => ?_⟩
        rw [f1 y (fun r2 q => by rw [hr] at q; cases q)]
        exact hr
      obtain ⟨ov2, h4, kp, s4, -, -⟩ := put ⟨kind, pick, (shL cs []).2⟩ hbn kv2 hkv h2 1 0 ov1 (shL cs []).1 s2 (by omega) 0
      have hpn : putN (shL cs []).1 ⟨kind, pick, (shL cs []).2⟩ = shU (plU kind pick ts) [] := by rw [hpu, shU]
      rw [hpn] at kp s4
      have hsb := shU_sub L hc (plU kind pick ts) [] Good.nil .nil hroot
      have hol2 := hsb.len (shU_spec (plU kind pick ts) [] Good.nil).1
      unfold plT plE
      rw [if_pos e1, if_pos e1]
      generalize (shU (plU kind pick ts) []).1 = O at *
      generalize (shU (plU kind pick ts) []).2 = m at *
      have kz : frz h4 11 ov2 = some (treeV O) := s4.o.frz 10 (frz_nodes _ 6 _)
      obtain ⟨q1, q2, q3, q4⟩ := r5.good
      obtain ⟨z1, z2, z3, z4⟩ := s4.o.good
      have ss := s4.s
      have u5 : lenV h4 ov2 = some (.int .i64 O.length, none) := by
        rcases s4.o with ⟨q, r⟩ | ⟨id, -, q, r⟩
        · have : O = [] := List.map_eq_nil_iff.1 r
          rw [q, this]; rfl
        · rw [q]; simp [r]
      have c1 : ¬ (100000 < (O.length : Int)) := by omega
      have c2 : ¬ (100000 < O.length) := by omega
      refine acw_pure (a2 := [iv kind, iv pick, .sl 1 (ts.map treeV)]) (h' := h4) (v := .tup [ov2, iv 0]) (CT T_tree_Plant) rfl rfl ?_ ?_ (by simp)
      · simp [runW_fin, F_tree_Plant, i_tree_Plant, kf, kc, o_mkm, lp, r4, fz, kp, ss, u5, c1, c2, q1, q2, q3, q4, z1, z2, z3, z4]
      · show (mapO (frz h4 11) _).map V.tup = _
        simp only [mapO_cons, mapO_nil, kz]
        rfl
end Go.RR.M
set_option linter.unusedVariables false
set_option linter.unusedSimpArgs false
set_option maxRecDepth 100000
set_option maxHeartbeats 4000000
namespace Go.RR
open Go.Lib
mutual
def cntU : UT → Nat
  | .nd _ _ cs => 1 + cntL cs
def cntL : List UT → Nat
  | [] => 0
  | u :: r => cntU u + cntL r
end
theorem cntL_map (l : List Int) (f : Int → UT) (g : Int → Nat) (h : ∀ k ∈ l, (txtU (f k)).length ≤ 50 * cntU (f k)) : (txtL (l.map f)).length ≤ 50 * cntL (l.map f) := by
  induction l with
  | nil => simp [txtL, cntL]
  | cons x r ih =>
    have h1 := h x (by simp)
    have h2 := ih fun k hk => h k (by simp [hk])
    simp only [List.map_cons, txtL, cntL, List.length_append]
    omega
theorem txt_cnt {t : List Nd} (hm : mayT t = true) : ∀ i, i < t.length → (txtU (unf t i)).length ≤ 50 * cntU (unf t i) := by
  intro i
  induction i using Nat.strongRecOn with
  | _ i ih =>
    intro hi
    have ha := mayT_ahd hm
    have hf := fits_kp (mayT_fits hm i hi)
    rw [unf_eq ha hi, txtU, cntU]
    have h1 := itoa_length_le t[i].kind (by omega) (by omega)
    have h2 := itoa_length_le t[i].pick (by omega) (by omega)
    have h3 := cntL_map t[i].kids (fun k => unf t k.toNat) (fun _ => 0) fun k hk => by
      have := ha i hi k hk
      exact ih k.toNat (by omega) (by omega)
    simp only [List.length_cons, List.length_append, List.length_nil]
    omega
mutual
theorem foldU_pos : ∀ u : UT, 1 ≤ foldU G1 u ∧ foldU G1 u ≤ top
  | .nd k p cs => by
    rw [foldU]
    exact satL_bound _ 1 (by omega) (by unfold top; omega) fun x hx => (foldL_pos cs x hx).1
theorem foldL_pos : ∀ (cs : List UT), ∀ x ∈ foldL G1 cs, 1 ≤ x ∧ x ≤ top
  | [], x, hx => by rw [foldL] at hx; simp at hx
  | u :: r, x, hx => by
    rw [foldL] at hx
    rcases List.mem_cons.1 hx with rfl | hx
    · exact foldU_pos u
    · exact foldL_pos r x hx
end
theorem satL_lt : ∀ (l : List Int) (s : Int), (∀ x ∈ l, 1 ≤ x) → l.foldl sat s < top → l.foldl sat s = s + l.sum
  | [], s, _, _ => by simp
  | x :: r, s, h, hlt => by
    rw [List.foldl_cons] at hlt ⊢
    by_cases c : top < s + x
    · have e : sat s x = top := by unfold sat; rw [if_pos c]
      rw [e, satL_full r fun y hy => h y (by simp [hy])] at hlt
      omega
    · have e : sat s x = s + x := by unfold sat; rw [if_neg c]
      rw [e] at hlt ⊢
      rw [satL_lt r (s + x) (fun y hy => h y (by simp [hy])) hlt, List.sum_cons]
      omega
theorem sum_pos : ∀ (l : List Int), (∀ x ∈ l, 1 ≤ x) → 0 ≤ l.sum
  | [], _ => by simp
  | x :: r, h => by
    have := sum_pos r fun y hy => h y (by simp [hy])
    have := h x (by simp)
    rw [List.sum_cons]
    omega
mutual
theorem cnt_size : ∀ u : UT, foldU G1 u < top → (cntU u : Int) = foldU G1 u
  | .nd k p cs, h => by
    rw [foldU] at h ⊢
    have e : G1 (foldL G1 cs) = 1 + (foldL G1 cs).sum := satL_lt (foldL G1 cs) 1 (fun x hx => (foldL_pos cs x hx).1) h
    rw [e] at h ⊢
    rw [cntU]
    have := cntL_size cs (by omega)
    omega
theorem cntL_size : ∀ cs : List UT, (foldL G1 cs).sum < top → (cntL cs : Int) = (foldL G1 cs).sum
  | [], _ => by simp [cntL, foldL]
  | u :: r, h => by
    rw [foldL, List.sum_cons] at h ⊢
    have h1 := foldU_pos u
    have h2 := sum_pos (foldL G1 r) fun x hx => (foldL_pos r x hx).1
    have e1 := cnt_size u (by omega)
    have e2 := cntL_size r (by omega)
    rw [cntL]
    omega
end
end Go.RR
namespace Go.RR.M
open Go Go.RR Go.Lib
/-- a call of data, by what it is once frozen -/
theorem acw_frz_eq {f : Nat} {F : F} {args a2 : List V} {h : List Ob} (hF : C.T f = some F) (hm : F.hm = false) (ha : frzL h args = some a2) (ha2 : frzL h a2 = some a2) (hd : dataL args = true) (hd2 : dataL a2 = true) : acw C f args h = acw C f a2 h := by
  rw [acw_fix, acw_fix (a := a2)]
  unfold callW
  simp only [hF, hm, ha, ha2, hd, hd2, Bool.false_eq_true, if_false]
theorem ref_walk0 (t : List Nd) (hm : mayT t = true) (i : Nat) (hi : i < t.length) (hlen : (txtU (unf t i)).length ≤ 1000000000) (h : List Ob) : acw C n_ref19_walk [treeV t, iv i, .nsl 1, .nsl 3] h = some (.ret (.tup [.str (txtU (unf t i)), .sl 1 (txs (shU (unf t i) []).1), treeV (shU (unf t i) []).1, iv (shU (unf t i) []).2]), h) := by
  rw [acw_frz_eq (a2 := [treeV t, iv i, .sl 1 [], .sl 3 []]) (CT T_ref19_walk) rfl rfl rfl rfl rfl]
  exact ref_walk t (alls t) hm (by rw [alls_len]; have := (mayT_len hm).2; omega) (alls_cl (mayT_ahd hm)) (fun j hj => alls_mem hj) i hi hlen [] h Good.nil .nil
theorem ref19_Share (t : List Nd) (ht : t.length ≤ 4611686018427387904) (hlen : mayT t = true → (txtU (rootU t)).length ≤ 1000000000) (h : List Ob) : acw C n_ref19_Share [treeV t] h = some (.ret (treeV (shareT t)), h) := by
  have km := ref19_May t ht
  cases hm : mayT t with
  | false =>
    rw [hm] at km
    unfold shareT
    rw [hm, if_neg (by simp)]
    refine acw_pure (a2 := [treeV t]) (h' := []) (v := .nsl 3) (CT T_ref19_Share) rfl rfl ?_ rfl (by simp)
    simp [runW_fin, F_ref19_Share, i_ref19_Share, km]
  | true =>
    rw [hm] at km
    obtain ⟨p1, p2⟩ := mayT_len hm
    obtain ⟨m, hm2⟩ : ∃ m, t.length = m + 1 := ⟨t.length - 1, by omega⟩
    have hr : unf t m = rootU t := by unfold rootU; rw [hm2]; rfl
    have kw := ref_walk0 t hm m (by omega) (by rw [hr]; exact hlen hm)
    have hsh : (shU (rootU t) []).1 = shareT t := by unfold shareT; rw [if_pos hm]
    rw [hr, hsh] at kw
    have w1 : IntKind.i64.wrap (m : Int) = m := wrap64 (by omega) (by omega)
    refine acw_ex (v := treeV (shareT t)) (CT T_ref19_Share) rfl rfl (fun _ => rfl) (by simp) ?_
    simp [runW_fin, F_ref19_Share, i_ref19_Share, km, hm2, kw, w1]
theorem ref19_Text (t : List Nd) (hm : mayT t = true) (hlen : (txtU (rootU t)).length ≤ 1000000000) (h : List Ob) : acw C n_ref19_Text [treeV t] h = some (.ret (.str (txtU (rootU t))), h) := by
  obtain ⟨p1, p2⟩ := mayT_len hm
  obtain ⟨m, hm2⟩ : ∃ m, t.length = m + 1 := ⟨t.length - 1, by omega⟩
  have hr : unf t m = rootU t := by unfold rootU; rw [hm2]; rfl
  have kw := ref_walk0 t hm m (by omega) (by rw [hr]; exact hlen)
  rw [hr] at kw
  have w1 : IntKind.i64.wrap (m : Int) = m := wrap64 (by omega) (by omega)
  refine acw_ex (v := .str (txtU (rootU t))) (CT T_ref19_Text) rfl rfl (fun _ => rfl) (by simp) ?_
  simp [runW_fin, F_ref19_Text, i_ref19_Text, hm2, kw, w1]
end Go.RR.M
set_option linter.unusedVariables false
set_option linter.unusedSimpArgs false
set_option maxRecDepth 100000
namespace Go.RR
def shN (off : Nat) (n : Nd) : Nd := ⟨n.kind, n.pick, n.kids.map fun k => k + (off : Int)⟩
structure Lay (A : List Nd) (B : List Int) (us : List UT) : Prop where
  ahd : Ahd A
  fit : ∀ i (h : i < A.length), fitsN A[i].kind A[i].pick A[i].kids.length = true
  kid : ∀ b ∈ B, 0 ≤ b ∧ b < A.length
  un : B.map (fun k => unf A k.toNat) = us
theorem Lay.nil : Lay [] [] [] := ⟨fun i h => by simp at h, fun i h => by simp at h, fun b h => by simp at h, rfl⟩
theorem Lay.step {A : List Nd} {B : List Int} {us : List UT} {t : List Nd} (L : Lay A B us) (hm : mayT t = true) : Lay (A ++ t.map (shN A.length)) (B ++ [(A.length : Int) + t.length - 1]) (us ++ [rootU t]) := by
  have ha := mayT_ahd hm
  have hp := (mayT_len hm).1
  have g1 : ∀ i (h : i < A.length) (h2 : i < (A ++ t.map (shN A.length)).length), (A ++ t.map (shN A.length))[i] = A[i] := fun i h h2 => List.getElem_append_left h
  have g2 : ∀ j (h : j < t.length) (h2 : A.length + j < (A ++ t.map (shN A.length)).length), (A ++ t.map (shN A.length))[A.length + j] = shN A.length t[j] := fun j h h2 => by
    rw [List.getElem_append_right (by omega)]
    simp
  have hah : Ahd (A ++ t.map (shN A.length)) := fun i hi k hk => by
    by_cases c : i < A.length
    · rw [g1 i c hi] at hk
      exact L.ahd i c k hk
    · obtain ⟨j, rfl⟩ : ∃ j, i = A.length + j := ⟨i - A.length, by omega⟩
      have hj : j < t.length := by simp at hi; omega
      rw [g2 j hj hi] at hk
      obtain ⟨k0, hk0, rfl⟩ := List.mem_map.1 hk
      have := ha j hj k0 hk0
      omega
  have hu : ∀ j, j < t.length → unf (A ++ t.map (shN A.length)) (A.length + j) = unf t j := by
    intro j
    induction j using Nat.strongRecOn with
    | _ j ih =>
      intro hj
      have h2 : A.length + j < (A ++ t.map (shN A.length)).length := by simp; omega
      rw [unf_eq hah h2, unf_eq ha hj, g2 j hj h2]
      simp only [shN, List.map_map]
      congr 1
      refine List.map_congr_left fun k hk => ?_
      have := ha j hj k hk
      have e : (k + (A.length : Int)).toNat = A.length + k.toNat := by omega
      simp only [Function.comp_apply, e]
      exact ih k.toNat (by omega) (by omega)
  refine ⟨hah, fun i hi => ?_, fun b hb => ?_, ?_⟩
  · by_cases c : i < A.length
    · rw [g1 i c hi]
      exact L.fit i c
    · obtain ⟨j, rfl⟩ : ∃ j, i = A.length + j := ⟨i - A.length, by omega⟩
      have hj : j < t.length := by simp at hi; omega
      rw [g2 j hj hi]
      simp only [shN, List.length_map]
      exact mayT_fits hm j hj
  · rw [List.length_append, List.length_map]
    rcases List.mem_append.1 hb with hb | hb
    · have := L.kid b hb
      omega
    · rw [List.mem_singleton.1 hb]
      omega
  · rw [List.map_append, List.map_singleton]
    congr 1
    · rw [← L.un]
      refine List.map_congr_left fun b hb => ?_
      have := L.kid b hb
      exact unf_pre hah b.toNat (by omega)
    · have e : ((A.length : Int) + t.length - 1).toNat = A.length + (t.length - 1) := by omega
      rw [e, hu _ (by omega)]
      rfl
theorem Lay.root {A : List Nd} {B : List Int} {us : List UT} {kind pick : Int} (L : Lay A B us) (hf : fitsN kind pick us.length = true) (hl : A.length + 1 ≤ 100000) : mayT (A ++ [⟨kind, pick, B⟩]) = true ∧ unf (A ++ [⟨kind, pick, B⟩]) A.length = .nd kind pick us := by
  have hBl : B.length = us.length := by rw [← L.un]; simp
  have g1 : ∀ i (h : i < A.length) (h2 : i < (A ++ [(⟨kind, pick, B⟩ : Nd)]).length), (A ++ [(⟨kind, pick, B⟩ : Nd)])[i] = A[i] := fun i h h2 => List.getElem_append_left h
  have g2 : ∀ (h2 : A.length < (A ++ [(⟨kind, pick, B⟩ : Nd)]).length), (A ++ [(⟨kind, pick, B⟩ : Nd)])[A.length] = ⟨kind, pick, B⟩ := fun h2 => by simp
  have hah : Ahd (A ++ [⟨kind, pick, B⟩]) := fun i hi k hk => by
    by_cases c : i < A.length
    · rw [g1 i c hi] at hk
      exact L.ahd i c k hk
    · obtain rfl : i = A.length := by simp at hi; omega
      rw [g2 hi] at hk
      exact L.kid k hk
  refine ⟨mayT_iff.2 ⟨by simp, by simp; omega, fun i hi => nodeOK_iff.2 ⟨?_, hah i hi⟩⟩, ?_⟩
  · by_cases c : i < A.length
    · rw [g1 i c hi]
      exact L.fit i c
    · obtain rfl : i = A.length := by simp at hi; omega
      rw [g2 hi]
      show fitsN kind pick B.length = true
      rw [hBl]
      exact hf
  · have h2 : A.length < (A ++ [(⟨kind, pick, B⟩ : Nd)]).length := by simp
    rw [unf_eq hah h2, g2 h2]
    simp only
    congr 1
    rw [← L.un]
    refine List.map_congr_left fun b hb => ?_
    have := L.kid b hb
    exact unf_pre hah b.toNat (by omega)
end Go.RR
set_option linter.unusedVariables false
set_option linter.unusedSimpArgs false
set_option maxRecDepth 100000
set_option maxHeartbeats 4000000
namespace Go.RR.M
open Go Go.RR Go.Lib
theorem rp_l0 (x0 x1 x2 x8 x9 x10 x12 : V) (off : Nat) (hoff : off ≤ 1000000) (n : Nd) (hk : ∀ k ∈ n.kids, 0 ≤ k ∧ k ≤ 1000000) (hl : n.kids.length ≤ 64) (P Q : Nat) (hPQ : P ≠ Q) : ∀ (d k : Nat) (acc : List Int) (h : List Ob), k + d = n.kids.length → acc.length = k → h[P]? = some (.row 3 [nodeV n]) → h[Q]? = some (.row 1 (acc.map (V.int .i64))) →
    ∃ h', evw C y0 i_ref19_Plant_l0 [(0, x0), (1, x1), (2, x2), (8, x8), (9, x9), (10, x10), (11, iv off), (12, x12), (13, .ptr P 0 0 1), (14, .own Q 0 k k), (15, iv k)] h = some (.ext 4, [(0, x0), (1, x1), (2, x2), (8, x8), (9, x9), (10, x10), (11, iv off), (12, x12), (13, .ptr P 0 0 1), (14, .own Q 0 n.kids.length n.kids.length), (15, iv n.kids.length), (63, .bool false)], h') ∧ h'[Q]? = some (.row 1 ((acc ++ (n.kids.drop k).map fun k => k + (off : Int)).map (V.int .i64))) ∧ (∀ x, x ≠ Q → h'[x]? = h[x]?) ∧ h'.length = h.length
  | 0, k, acc, h, e, ha, hP, hQ => by
    obtain rfl : k = n.kids.length := by omega
    rw [r_ref19_Plant_0]
    refine ⟨h, ?_, by simpa using hQ, fun _ _ => rfl, rfl⟩
    simp [b_ref19_Plant_0, hP]
  | d + 1, k, acc, h, e, ha, hP, hQ => by
    have hlt : k < n.kids.length := by omega
    have h2 : (k : Int) < n.kids.length := by omega
    have hw := wrap_succ (i := k) (n := n.kids.length) hlt (by omega)
    obtain ⟨kd, hkd⟩ : ∃ kd, kd = n.kids[k] := ⟨_, rfl⟩
    have hb := hk n.kids[k] (List.getElem_mem hlt)
    rw [← hkd] at hb
    have h5 : n.kids[k]? = some kd := by simp [hlt, hkd]
    have h6 : ∀ h : k < n.kids.length, n.kids[k]'h = kd := fun _ => hkd.symm
    have hQl := (List.getElem?_eq_some_iff.1 hQ).1
    have w1 : IntKind.i64.wrap (kd + off) = kd + off := wrap64 (by omega) (by omega)
    obtain ⟨h1, hh1⟩ : ∃ h1, h1 = h.set Q (.row 1 ((acc ++ [kd + (off : Int)]).map (V.int .i64))) := ⟨_, rfl⟩
    obtain ⟨h', ih, i2, i3, i4⟩ := rp_l0 x0 x1 x2 x8 x9 x10 x12 off hoff n hk hl P Q hPQ d (k + 1) (acc ++ [kd + (off : Int)]) h1 (by omega) (by simp; omega) (by rw [hh1, List.getElem?_set_ne (Ne.symm hPQ)]; exact hP) (by rw [hh1]; simp [hQl])
    simp only [Int.natCast_add, Int.cast_ofNat_Int] at ih
    refine ⟨h', ?_, ?_, fun x hx => by rw [i3 x hx, hh1, List.getElem?_set_ne (Ne.symm hx)], by rw [i4, hh1, List.length_set]⟩
    · have k4 : bsfL (.int .i64 0) [iv (kd + off)] = some (.sl 1 [iv (kd + off)]) := rfl
      have a1 : appV h.length h 1 8 (.own Q 0 k k) (.sl 1 [iv (kd + off)]) = some (.own Q 0 (k + 1) (k + 1), some (Q, .row 1 ((acc ++ [kd + (off : Int)]).map (V.int .i64)))) := by
        rw [List.map_append]
        exact appV_own hQ (by simp [ha]) rfl (by simp) (by simp) (by omega) (by omega)
      have u1 : wr h (some (Q, .row 1 ((acc ++ [kd + (off : Int)]).map (V.int .i64)))) = h1 := by rw [wr_lt hQl, hh1]
      generalize (acc ++ [kd + (off : Int)]).map (V.int .i64) = AC at *
      rw [r_ref19_Plant_0, ← ih]
      simp [b_ref19_Plant_0, h2, hlt, h5, h6, hP, w1, k4, a1, u1, hw]
    · rw [i2, List.drop_eq_getElem_cons hlt, ← hkd]
      simp
theorem rp_l1 (x0 x1 x10 : V) (ts : List (List Nd)) (i : Nat) (hi : i < ts.length) (t : List Nd) (ht : ts[i]? = some t) (hm : mayT t = true) (hx10 : x10 = iv i) (B : List Int) (off : Nat) (hoff : off ≤ 100000) : ∀ (d j : Nat) (A : List Nd) (h : List Ob), j + d = t.length → A.length = off + j → h[0]? = some (.row 3 (A.map nodeV)) → h[1]? = some (.row 1 (B.map (V.int .i64))) → 2 ≤ h.length →
    ∃ h', evw C y0 i_ref19_Plant_l1 [(0, x0), (1, x1), (2, .sl 1 (ts.map treeV)), (8, .own 0 0 A.length A.length), (9, .own 1 0 B.length B.length), (10, x10), (11, iv off), (12, iv j)] h = some (.ext 2, [(0, x0), (1, x1), (2, .sl 1 (ts.map treeV)), (8, .own 0 0 (A ++ (t.drop j).map (shN off)).length (A ++ (t.drop j).map (shN off)).length), (9, .own 1 0 B.length B.length), (10, x10), (11, iv off), (12, iv t.length), (48, .bool false)], h') ∧ h'[0]? = some (.row 3 ((A ++ (t.drop j).map (shN off)).map nodeV)) ∧ h'[1]? = some (.row 1 (B.map (V.int .i64))) ∧ 2 ≤ h'.length
  | 0, j, A, h, e, hA, h0, h1, hl => by
    obtain rfl : j = t.length := by omega
    have hi2 : (i : Int) < ts.length := by omega
    have ht2 : ∀ h : i < ts.length, ts[i]'h = t := fun _ => (List.getElem?_eq_some_iff.1 ht).2
    subst hx10
    rw [r_ref19_Plant_1]
    refine ⟨h, ?_, by simpa using h0, h1, hl⟩
    simp [b_ref19_Plant_1, hi, hi2, ht, ht2]
  | d + 1, j, A, h, e, hA, h0, h1, hl => by
    have hi2 : (i : Int) < ts.length := by omega
    have ht2 : ∀ h : i < ts.length, ts[i]'h = t := fun _ => (List.getElem?_eq_some_iff.1 ht).2
    have hlt : j < t.length := by omega
    have h2 : (j : Int) < t.length := by omega
    have htl := (mayT_len hm).2
    have hw := wrap_succ (i := j) (n := t.length) hlt (by omega)
    obtain ⟨n, hn⟩ : ∃ n, n = t[j] := ⟨_, rfl⟩
    have h5 : t[j]? = some n := by simp [hlt, hn]
    have h6 : ∀ h : j < t.length, t[j]'h = n := fun _ => hn.symm
    have hnk : n.kids.length ≤ 64 := by rw [hn]; exact mayT_kids hm j hlt
    have hkb : ∀ k ∈ n.kids, 0 ≤ k ∧ k ≤ 1000000 := fun k hk => by
      rw [hn] at hk
      have := mayT_ahd hm j hlt k hk
      omega
    obtain ⟨h', l0, l1, l2, l3⟩ := rp_l0 x0 x1 (.sl 1 (ts.map treeV)) (.own 0 0 A.length A.length) (.own 1 0 B.length B.length) x10 (iv j) off (by omega) n hkb hnk h.length (h.length + 1) (by omega) n.kids.length 0 [] (h ++ [.row 3 [nodeV n], .row 1 []]) (by omega) rfl (by simp) (by simp)
    simp only [List.drop_zero, List.nil_append, Int.cast_ofNat_Int] at l0 l1
    obtain ⟨ks, hks⟩ : ∃ ks, ks = n.kids.map fun k => k + (off : Int) := ⟨_, rfl⟩
    rw [← hks] at l1
    have hksl : ks.length = n.kids.length := by rw [hks]; simp
    have g0 : h'[0]? = some (.row 3 (A.map nodeV)) := by rw [l2 0 (by omega)]; exact get_some h0
    have g1 : h'[1]? = some (.row 1 (B.map (V.int .i64))) := by rw [l2 1 (by omega)]; exact get_some h1
    have gP : h'[h.length]? = some (.row 3 [nodeV n]) := by rw [l2 h.length (by omega)]; simp
    have hQl := (List.getElem?_eq_some_iff.1 l1).1
    obtain ⟨H2, hH2⟩ : ∃ H2, H2 = h'.set (h.length + 1) .dead := ⟨_, rfl⟩
    have gg0 : H2[0]? = some (.row 3 (A.map nodeV)) := by rw [hH2, List.getElem?_set_ne (by omega)]; exact g0
    have gg1 : H2[1]? = some (.row 1 (B.map (V.int .i64))) := by rw [hH2, List.getElem?_set_ne (by omega)]; exact g1
    have hd : dataL (ks.map (V.int .i64)) = true := dataL_all fun x hx => by
      obtain ⟨y, -, rfl⟩ := List.mem_map.1 hx
      rfl
    have fz := fzP_own (n := n.kids.length) l1 (by rw [List.length_map]; exact hksl.symm) hd
    rw [← hH2] at fz
    have hH2l : H2.length = h.length + 2 := by rw [hH2, List.length_set, l3]; simp
    have hsh : nodeV (shN off n) = .agg [iv n.kind, iv n.pick, intsV ks] := by unfold shN; rw [hks]
    obtain ⟨H3, hH3⟩ : ∃ H3, H3 = H2.set 0 (.row 3 ((A ++ [shN off n]).map nodeV)) := ⟨_, rfl⟩
    obtain ⟨h4, ih, i2, i3, i4⟩ := rp_l1 x0 x1 x10 ts i hi t ht hm hx10 B off hoff d (j + 1) (A ++ [shN off n]) H3 (by omega) (by simp; omega) (by rw [hH3]; exact List.getElem?_set_self (by omega)) (by rw [hH3, List.getElem?_set_ne (by omega)]; exact gg1) (by rw [hH3, List.length_set]; omega)
    simp only [Int.natCast_add, Int.cast_ofNat_Int] at ih
    rw [List.drop_eq_getElem_cons hlt, ← hn, List.map_cons, List.append_cons]
    refine ⟨h4, ?_, i2, i3, i4⟩
    have k4 : bsfL (.agg [.int .i64 0, .int .i64 0, .nsl 1]) [.agg [iv n.kind, iv n.pick, intsV ks]] = some (.sl 3 [.agg [iv n.kind, iv n.pick, intsV ks]]) := rfl
    have a1 : appV (h.length + 2) H2 3 40 (.own 0 0 A.length A.length) (.sl 3 [.agg [iv n.kind, iv n.pick, intsV ks]]) = some (.own 0 0 (A.length + 1) (A.length + 1), some (0, .row 3 ((A ++ [shN off n]).map nodeV))) := by
      rw [List.map_append, List.map_singleton, hsh]
      exact appV_own gg0 (by simp) rfl (by simp) (by simp) (by omega) (by omega)
    have u1 : wr H2 (some (0, .row 3 ((A ++ [shN off n]).map nodeV))) = H3 := by rw [wr_lt (by omega), hH3]
    have eA : (A ++ [shN off n]).length = A.length + 1 := by simp
    rw [eA] at ih
    generalize (A ++ [shN off n]).map nodeV = AC at *
    subst hx10
    rw [r_ref19_Plant_1, ← ih]
    simp [b_ref19_Plant_1, hi, hi2, ht, ht2, h2, hlt, h5, h6, l0, gP, fz, hH2l, k4, a1, u1, hw]
end Go.RR.M
set_option linter.unusedVariables false
set_option linter.unusedSimpArgs false
set_option maxRecDepth 100000
set_option maxHeartbeats 4000000
namespace Go.RR.M
open Go Go.RR Go.Lib
theorem rp_l2 (kind pick : Int) (ts : List (List Nd)) (hl : ∀ t ∈ ts, t.length ≤ 1000) (hkl : ts.length ≤ 64) : ∀ (d i : Nat) (A : List Nd) (B : List Int) (us : List UT) (h : List Ob), i + d = ts.length → Lay A B us → B.length = i → A.length ≤ 1000 * i → h[0]? = some (.row 3 (A.map nodeV)) → h[1]? = some (.row 1 (B.map (V.int .i64))) → 2 ≤ h.length →
    ((ts.drop i).all mayT = true → ∃ h' A' B', evw C y0 i_ref19_Plant_l2 [(0, iv kind), (1, iv pick), (2, .sl 1 (ts.map treeV)), (8, .own 0 0 A.length A.length), (9, .own 1 0 B.length B.length), (10, iv i)] h = some (.ext 0, [(0, iv kind), (1, iv pick), (2, .sl 1 (ts.map treeV)), (8, .own 0 0 A'.length A'.length), (9, .own 1 0 B'.length B'.length), (10, iv ts.length), (31, .bool false)], h') ∧ Lay A' B' (us ++ (ts.drop i).map rootU) ∧ A'.length ≤ 64000 ∧ h'[0]? = some (.row 3 (A'.map nodeV)) ∧ h'[1]? = some (.row 1 (B'.map (V.int .i64))) ∧ 2 ≤ h'.length) ∧
    ((ts.drop i).all mayT = false → ∃ h', evw C y0 i_ref19_Plant_l2 [(0, iv kind), (1, iv pick), (2, .sl 1 (ts.map treeV)), (8, .own 0 0 A.length A.length), (9, .own 1 0 B.length B.length), (10, iv i)] h = some (.ret, [(6, .nsl 3), (7, iv 1)], h'))
  | 0, i, A, B, us, h, e, L, hB, hA, h0, h1, h2 => by
    obtain rfl : i = ts.length := by omega
    rw [r_ref19_Plant_2, List.drop_length]
    refine ⟨fun _ => ⟨h, A, B, ?_, by simpa using L, by omega, h0, h1, h2⟩, fun q => by simp at q⟩
    simp [b_ref19_Plant_2]
  | d + 1, i, A, B, us, h, e, L, hB, hA, h0, h1, h2 => by
    have hlt : i < ts.length := by omega
    have hi2 : (i : Int) < ts.length := by omega
    have hw := wrap_succ (i := i) (n := ts.length) hlt (by omega)
    obtain ⟨t, ht⟩ : ∃ t, t = ts[i] := ⟨_, rfl⟩
    have h5 : ts[i]? = some t := by simp [hlt, ht]
    have h6 : ∀ h : i < ts.length, ts[i]'h = t := fun _ => ht.symm
    have hmem : t ∈ ts := by rw [ht]; exact List.getElem_mem hlt
    have htl := hl t hmem
    have km := ref19_May t (by omega)
    rw [List.drop_eq_getElem_cons hlt, ← ht, List.all_cons]
    cases hm : mayT t with
    | false =>
      rw [hm] at km
      refine ⟨fun q => by simp at q, fun _ => ⟨h, ?_⟩⟩
      rw [r_ref19_Plant_2]
      simp [b_ref19_Plant_2, hlt, hi2, h5, h6, km]
    | true =>
      rw [hm] at km
      have hp := (mayT_len hm).1
      obtain ⟨h', lp, l1, l2, l3⟩ := rp_l1 (iv kind) (iv pick) (iv i) ts i hlt t h5 hm rfl B A.length (by omega) t.length 0 A h (by omega) (by omega) h0 h1 h2
      simp only [List.drop_zero, Int.cast_ofNat_Int] at lp l1
      obtain ⟨A1, hA1⟩ : ∃ A1, A1 = A ++ t.map (shN A.length) := ⟨_, rfl⟩
      rw [← hA1] at lp l1
      have hA1l : A1.length = A.length + t.length := by rw [hA1]; simp
      have hA1i : (A.length : Int) + t.length = A1.length := by omega
      have L1 := L.step hm
      rw [← hA1, hA1i] at L1
      have w1 : IntKind.i64.wrap ((A1.length : Int) - 1) = (A1.length : Int) - 1 := wrap64 (by omega) (by omega)
      obtain ⟨H2, hH2⟩ : ∃ H2, H2 = h'.set 1 (.row 1 ((B ++ [(A1.length : Int) - 1]).map (V.int .i64))) := ⟨_, rfl⟩
      have u1 : wr h' (some (1, .row 1 ((B ++ [(A1.length : Int) - 1]).map (V.int .i64)))) = H2 := by rw [wr_lt (by omega), hH2]
      have a1 : appV h'.length h' 1 8 (.own 1 0 B.length B.length) (.sl 1 [iv ((A1.length : Int) - 1)]) = some (.own 1 0 (B.length + 1) (B.length + 1), some (1, .row 1 ((B ++ [(A1.length : Int) - 1]).map (V.int .i64)))) := by
        rw [List.map_append]
        exact appV_own l2 (by simp) rfl (by simp) (by simp) (by omega) (by omega)
      obtain ⟨ih1, ih2⟩ := rp_l2 kind pick ts hl hkl d (i + 1) A1 (B ++ [(A1.length : Int) - 1]) (us ++ [rootU t]) H2 (by omega) L1 (by simp; omega) (by omega) (by rw [hH2, List.getElem?_set_ne (by omega)]; exact l1) (by rw [hH2]; exact List.getElem?_set_self (by omega)) (by rw [hH2, List.length_set]; exact l3)
      have eB : (B ++ [(A1.length : Int) - 1]).length = B.length + 1 := by simp
      rw [eB] at ih1 ih2
      simp only [Int.natCast_add, Int.cast_ofNat_Int] at ih1 ih2
      have k4 : bsfL (.int .i64 0) [iv ((A1.length : Int) - 1)] = some (.sl 1 [iv ((A1.length : Int) - 1)]) := rfl
      generalize (B ++ [(A1.length : Int) - 1]).map (V.int .i64) = BC at *
      refine ⟨fun q => ?_, fun q => ?_⟩
      · obtain ⟨h4, A', B', ih, j1, j2, j3, j4, j5⟩ := ih1 (by simpa using q)
        refine ⟨h4, A', B', ?_, by simpa using j1, j2, j3, j4, j5⟩
        rw [r_ref19_Plant_2, ← ih]
        simp [b_ref19_Plant_2, hlt, hi2, h5, h6, km, h0, l1, lp, w1, k4, a1, u1, hw]
      · obtain ⟨h4, ih⟩ := ih2 (by simpa using q)
        refine ⟨h4, ?_⟩
        rw [r_ref19_Plant_2, ← ih]
        simp [b_ref19_Plant_2, hlt, hi2, h5, h6, km, h0, l1, lp, w1, k4, a1, u1, hw]
theorem ref19_Plant (kind pick : Int) (ts : List (List Nd)) (hl : ∀ t ∈ ts, t.length ≤ 1000) (hn : ts.length ≤ 1000) (hlen : plOK kind pick ts = true → (txtU (plU kind pick ts)).length ≤ 1000000000) (h : List Ob) : acw C n_ref19_Plant [iv kind, iv pick, .sl 1 (ts.map treeV)] h = some (.ret (.tup [treeV (plT kind pick ts), iv (plE kind pick ts)]), h) := by
  have kf := ref19_Fits kind pick ts.length
  cases hf : fitsN kind pick ts.length with
  | false =>
    rw [hf] at kf
    have e1 : plOK kind pick ts = false := by simp [plOK, hf]
    unfold plT plE
    rw [e1, if_neg (by simp), if_neg (by simp)]
    refine acw_pure (a2 := [iv kind, iv pick, .sl 1 (ts.map treeV)]) (h' := []) (v := .tup [.nsl 3, iv 1]) (CT T_ref19_Plant) rfl rfl ?_ rfl (by simp)
    simp [runW_fin, F_ref19_Plant, i_ref19_Plant, kf]
  | true =>
    rw [hf] at kf
    have hkl : ts.length ≤ 64 := fits_kids hf
    obtain ⟨q1, q2⟩ := rp_l2 kind pick ts hl hkl ts.length 0 [] [] [] [.row 3 [], .row 1 []] (by omega) .nil rfl (by simp) rfl rfl (by simp)
    simp only [List.drop_zero, List.nil_append, Int.cast_ofNat_Int, List.length_nil] at q1 q2
    cases ha : ts.all mayT with
    | false =>
      obtain ⟨h', lp⟩ := q2 ha
      have e1 : plOK kind pick ts = false := by simp [plOK, ha]
      unfold plT plE
      rw [e1, if_neg (by simp), if_neg (by simp)]
      refine acw_pure (a2 := [iv kind, iv pick, .sl 1 (ts.map treeV)]) (h' := h') (v := .tup [.nsl 3, iv 1]) (CT T_ref19_Plant) rfl rfl ?_ rfl (by simp)
      simp [runW_fin, F_ref19_Plant, i_ref19_Plant, kf, lp]
    | true =>
      obtain ⟨h', A, B, lp, L, hAl, g0, g1, g2⟩ := q1 ha
      have e1 : plOK kind pick ts = true := by simp [plOK, hf, ha]
      unfold plT plE
      rw [if_pos e1, if_pos e1]
      obtain ⟨hma, hua⟩ := L.root (kind := kind) (pick := pick) (by simpa using hf) (by omega)
      have hua : unf (A ++ [⟨kind, pick, B⟩]) A.length = plU kind pick ts := hua
      have kw := ref_walk0 (A ++ [⟨kind, pick, B⟩]) hma A.length (by simp) (by rw [hua]; exact hlen e1)
      rw [hua] at kw
      have hd1 : dataL (B.map (V.int .i64)) = true := dataL_all fun x hx => by
        obtain ⟨y, -, rfl⟩ := List.mem_map.1 hx
        rfl
      have fz1 := fzP_own (n := B.length) g1 (by simp) hd1
      obtain ⟨H1, hH1⟩ : ∃ H1, H1 = h'.set 1 .dead := ⟨_, rfl⟩
      rw [← hH1] at fz1
      have gg0 : H1[0]? = some (.row 3 (A.map nodeV)) := by rw [hH1, List.getElem?_set_ne (by omega)]; exact g0
      have gl : 2 ≤ H1.length := by rw [hH1, List.length_set]; exact g2
      have k4 : bsfL (.agg [.int .i64 0, .int .i64 0, .nsl 1]) [.agg [iv kind, iv pick, intsV B]] = some (.sl 3 [.agg [iv kind, iv pick, intsV B]]) := rfl
      have a1 : appV H1.length H1 3 40 (.own 0 0 A.length A.length) (.sl 3 [.agg [iv kind, iv pick, intsV B]]) = some (.own 0 0 (A.length + 1) (A.length + 1), some (0, .row 3 ((A ++ [(⟨kind, pick, B⟩ : Nd)]).map nodeV))) := by
        rw [List.map_append, List.map_singleton]
        exact appV_own gg0 (by simp) rfl (by simp) (by simp) (by omega) (by omega)
      obtain ⟨H2, hH2⟩ : ∃ H2, H2 = H1.set 0 (.row 3 ((A ++ [(⟨kind, pick, B⟩ : Nd)]).map nodeV)) := ⟨_, rfl⟩
      have u1 : wr H1 (some (0, .row 3 ((A ++ [(⟨kind, pick, B⟩ : Nd)]).map nodeV))) = H2 := by rw [wr_lt (by omega), hH2]
      have gg2 : H2[0]? = some (.row 3 ((A ++ [(⟨kind, pick, B⟩ : Nd)]).map nodeV)) := by rw [hH2]; exact List.getElem?_set_self (by omega)
      have hd2 : dataL ((A ++ [(⟨kind, pick, B⟩ : Nd)]).map nodeV) = true := dataL_all fun x hx => by
        obtain ⟨y, -, rfl⟩ := List.mem_map.1 hx
        rfl
      have fz2 := fzP_own (n := A.length + 1) gg2 (by simp) hd2
      have hal : (A ++ [(⟨kind, pick, B⟩ : Nd)]).length = A.length + 1 := by simp
      generalize A ++ [(⟨kind, pick, B⟩ : Nd)] = al at *
      have w1 : IntKind.i64.wrap (A.length : Int) = A.length := wrap64 (by omega) (by omega)
      refine acw_pure (a2 := [iv kind, iv pick, .sl 1 (ts.map treeV)]) (h' := H2.set 0 .dead) (v := .tup [treeV (shU (plU kind pick ts) []).1, iv 0]) (CT T_ref19_Plant) rfl rfl ?_ rfl (by simp)
      simp [runW_fin, F_ref19_Plant, i_ref19_Plant, kf, lp, fz1, k4, a1, u1, fz2, hal, kw, w1]
end Go.RR.M
set_option linter.unusedVariables false
set_option linter.unusedSimpArgs false
set_option maxRecDepth 100000
namespace Go.RR
mutual
theorem shU_pred (P : UT → Prop) (hc : ∀ k p cs, P (.nd k p cs) → ∀ c ∈ cs, P c) : ∀ (u : UT) (out : List Nd), Good out → (∀ i, i < out.length → P (unf out i)) → P u → ∀ i, i < (shU u out).1.length → P (unf (shU u out).1 i)
  | .nd k p cs, out, g, s, hu => by
    have s1 := shL_pred P hc cs out g s (hc k p cs hu)
    obtain ⟨g1, -, h2, -⟩ := shL_spec cs out g
    obtain ⟨g2, -, h3, h4⟩ := shU_spec (.nd k p cs) out g
    obtain ⟨-, ⟨e, he⟩, -⟩ := putN_spec (n := ⟨k, p, (shL cs out).2⟩) g1 h2
    intro i hi
    by_cases c : i < (shL cs out).1.length
    · have e1 : (shU (.nd k p cs) out).1 = (shL cs out).1 ++ e := by rw [shU]; exact he
      have g2 := g2.ahd
      rw [e1] at g2 ⊢
      rw [unf_pre g2 i c]
      exact s1 i c
    · have : i = (shU (.nd k p cs) out).2 := by
        rw [shU] at h3 hi ⊢
        unfold putN at h3 hi ⊢
        split at h3
        · rename_i j hj
          simp only [hj] at hi ⊢
          omega
        · rename_i hj
          simp only [hj, List.length_append, List.length_singleton] at hi ⊢
          omega
      rw [this, h4]
      exact hu
theorem shL_pred (P : UT → Prop) (hc : ∀ k p cs, P (.nd k p cs) → ∀ c ∈ cs, P c) : ∀ (cs : List UT) (out : List Nd), Good out → (∀ i, i < out.length → P (unf out i)) → (∀ c ∈ cs, P c) → ∀ i, i < (shL cs out).1.length → P (unf (shL cs out).1 i)
  | [], out, g, s, h => by rw [shL]; exact s
  | u :: r, out, g, s, h => by
    have s1 := shU_pred P hc u out g s (h u (by simp))
    have g1 := (shU_spec u out g).1
    have := shL_pred P hc r (shU u out).1 g1 s1 fun c hc => h c (by simp [hc])
    rw [shL]
    exact this
end
theorem cntL_mem {cs : List UT} {c : UT} (h : c ∈ cs) : cntU c ≤ cntL cs := by
  induction cs with
  | nil => simp at h
  | cons u r ih =>
    rw [cntL]
    rcases List.mem_cons.1 h with rfl | h
    · omega
    · have := ih h; omega
/-- the root stands last -/
theorem root_last (k p : Int) (cs : List UT) : shU (.nd k p cs) [] = ((shL cs []).1 ++ [⟨k, p, (shL cs []).2⟩], (shL cs []).1.length) := by
  refine put_new Good.nil fun m hm e => ?_
  have := shL_pred (fun v => cntU v < cntU (.nd k p cs)) (fun k' p' cs' h c hc => by
    have h : cntU (.nd k' p' cs') < cntU (.nd k p cs) := h
    have h2 := cntL_mem hc
    rw [cntU] at h
    show cntU c < _
    omega) cs [] Good.nil (fun i h => by simp at h) (fun c hc => by
    have h2 := cntL_mem hc
    show cntU c < cntU (.nd k p cs)
    rw [cntU]
    omega) m hm
  rw [e] at this
  exact absurd this (Nat.lt_irrefl _)
theorem shU_last (u : UT) : (shU u []).2 + 1 = (shU u []).1.length ∧ unf (shU u []).1 ((shU u []).1.length - 1) = u := by
  have h := shU_spec u [] Good.nil
  have e : (shU u []).2 + 1 = (shU u []).1.length := by
    cases u with
    | nd k p cs => rw [root_last]; simp
  refine ⟨e, ?_⟩
  rw [← e, Nat.add_sub_cancel]
  exact h.2.2.2
theorem root_share {t : List Nd} (hm : mayT t = true) : rootU (shareT t) = rootU t := by
  have := (shU_last (rootU t)).2
  unfold shareT
  rw [if_pos hm]
  exact this
theorem share_share {t : List Nd} (hm : mayT t = true) : shareT (shareT t) = shareT t := by
  have h1 := share_may hm
  have h2 := root_share hm
  have key : ∀ s, mayT s = true → shareT s = (shU (rootU s) []).1 := fun s h => by unfold shareT; rw [if_pos h]
  rw [key _ h1, h2, key t hm]
theorem share_root {a b : List Nd} (ha : mayT a = true) (hb : mayT b = true) : shareT a = shareT b ↔ rootU a = rootU b := by
  constructor
  · intro h
    rw [← root_share ha, h, root_share hb]
  · intro h
    unfold shareT
    rw [if_pos ha, if_pos hb, h]
theorem share_pos {t : List Nd} (hm : mayT t = true) : 0 < (shareT t).length := (mayT_len (share_may hm)).1
theorem share_no {t : List Nd} (hm : mayT t = false) : shareT t = [] := by unfold shareT; rw [hm, if_neg (by simp)]
open Classical in
theorem sameT_eq (a b : List Nd) : M.sameT a b = (mayT a && mayT b && decide (rootU a = rootU b)) := by
  unfold M.sameT
  cases ha : mayT a with
  | false => rw [share_no ha]; simp
  | true =>
    cases hb : mayT b with
    | false =>
      have := share_pos ha
      have e : ¬ (shareT a = []) := fun q => by rw [q] at this; simp at this
      rw [share_no hb]
      simp [e]
    | true =>
      have := share_pos ha
      by_cases c : rootU a = rootU b
      · have := (share_root ha hb).2 c
        simp [c, this, share_pos ha, share_pos hb]
      · have : ¬ (shareT a = shareT b) := fun q => c ((share_root ha hb).1 q)
        simp [c, this]
/-- what is planted: its last node -/
theorem plT_last {kind pick : Int} {ts : List (List Nd)} (h : plOK kind pick ts = true) : ∃ O ks, plT kind pick ts = O ++ [⟨kind, pick, ks⟩] ∧ Good (O ++ [⟨kind, pick, ks⟩]) ∧ (∀ k ∈ ks, 0 ≤ k ∧ k < O.length) ∧ ks.map (fun k => unf O k.toNat) = ts.map rootU ∧ unf (O ++ [⟨kind, pick, ks⟩]) O.length = plU kind pick ts := by
  have g := shU_spec (plU kind pick ts) [] Good.nil
  unfold plT
  rw [if_pos h]
  have e := root_last kind pick (ts.map rootU)
  have e' : shU (plU kind pick ts) [] = _ := e
  obtain ⟨g1, -, g2, g3⟩ := shL_spec (ts.map rootU) [] Good.nil
  rw [e'] at g ⊢
  exact ⟨_, _, rfl, g.1, g2, g3, g.2.2.2⟩
theorem plT_may {kind pick : Int} {ts : List (List Nd)} (h : plOK kind pick ts = true) (hl : (plT kind pick ts).length ≤ 100000) : mayT (plT kind pick ts) = true ∧ rootU (plT kind pick ts) = plU kind pick ts := by
  obtain ⟨O, ks, e, g, g2, g3, g4⟩ := plT_last h
  obtain ⟨hf, hm⟩ := plOK_iff.1 h
  have hks : ks.length = ts.length := by have := congrArg List.length g3; simpa using this
  refine ⟨mayT_iff.2 ⟨by rw [e]; simp, hl, fun j hj => nodeOK_iff.2 ⟨?_, ?_⟩⟩, ?_⟩
  · -- each node is of some tree that fits
    have P : ∀ i, i < (plT kind pick ts).length → ∀ k p cs, unf (plT kind pick ts) i = .nd k p cs → fitsN k p cs.length = true := by
      have hp := shU_pred (fun v => v = plU kind pick ts ∨ ∃ t ∈ ts, ∃ i, i < t.length ∧ v = unf t i) (fun k p cs h c hc => by
        rcases h with h | ⟨t, ht, i, hi, h⟩
        · unfold plU at h
          injection h with h1 h2 h3
          subst h3
          obtain ⟨t, ht, rfl⟩ := List.mem_map.1 hc
          exact .inr ⟨t, ht, t.length - 1, by have := (mayT_len (hm t ht)).1; omega, rfl⟩
        · rw [unf_eq (mayT_ahd (hm t ht)) hi] at h
          injection h with h1 h2 h3
          subst h3
          obtain ⟨k', hk', rfl⟩ := List.mem_map.1 hc
          have := mayT_ahd (hm t ht) i hi k' hk'
          exact .inr ⟨t, ht, k'.toNat, by omega, rfl⟩) (plU kind pick ts) [] Good.nil (fun i h => by simp at h) (.inl rfl)
      intro i hi k p cs hu
      have e2 : plT kind pick ts = (shU (plU kind pick ts) []).1 := by unfold plT; rw [if_pos h]
      rw [e2] at hi hu
      rcases hp i hi with q | ⟨t, ht, j, hj, q⟩
      · rw [hu] at q
        unfold plU at q
        injection q with h1 h2 h3
        rw [h1, h2, h3, List.length_map]
        exact hf
      · rw [hu, unf_eq (mayT_ahd (hm t ht)) hj] at q
        injection q with h1 h2 h3
        rw [h1, h2, h3, List.length_map]
        exact mayT_fits (hm t ht) j hj
    have ga : Ahd (plT kind pick ts) := by rw [e]; exact g.ahd
    have := P j hj _ _ _ (unf_eq ga hj)
    rwa [List.length_map] at this
  · have ga : Ahd (plT kind pick ts) := by rw [e]; exact g.ahd
    exact ga j hj
  · unfold rootU
    rw [e, List.length_append, List.length_singleton, Nat.add_sub_cancel]
    exact g4
end Go.RR
set_option linter.unusedVariables false
set_option linter.unusedSimpArgs false
set_option maxRecDepth 100000
set_option maxHeartbeats 4000000
namespace Go.RR
def wideT (t : List Nd) : Bool := t.any fun n => decide (200 < n.kids.length)
def largeT (t : List Nd) : Bool := decide (200 < t.length) || (wideT t || (mayT t && decide (400 < foldU G1 (rootU t))))
end Go.RR
namespace Go.RR.M
open Go Go.RR Go.Lib
theorem large_loop (t : List Nd) (hn : t.length ≤ 200) : ∀ (d i : Nat) (h : List Ob), i + d = t.length →
    ∃ fr' h', evw C y0 i_law19_Large_l0 [(0, treeV t), (10, treeV t), (11, iv t.length), (12, iv i)] h = some (if wideT (t.drop i) = true then (.ret, [(2, .bool true)], h') else (.ext 0, (0, treeV t) :: fr', h'))
  | 0, i, h, e => by
    obtain rfl : i = t.length := by omega
    rw [r_law19_Large_0]
    refine ⟨[(10, treeV t), (11, iv t.length), (12, iv t.length), (13, .bool false)], h, ?_⟩
    simp [b_law19_Large_0, wideT]
  | d + 1, i, h, e => by
    have hlt : i < t.length := by omega
    have h2 : (i : Int) < t.length := by omega
    have h3 : t[i]? = some t[i] := by simp [hlt]
    have hw := wrap_succ (i := i) (n := t.length) hlt (by omega)
    obtain ⟨fr', h', ih⟩ := large_loop t hn d (i + 1) (h ++ [.row 3 [nodeV t[i]]]) (by omega)
    simp only [Int.natCast_add, Int.cast_ofNat_Int] at ih
    rw [r_law19_Large_0, List.drop_eq_getElem_cons hlt]
    have ew : wideT (t[i] :: t.drop (i + 1)) = (decide (200 < t[i].kids.length) || wideT (t.drop (i + 1))) := rfl
    rw [ew]
    by_cases c : 200 < t[i].kids.length
    · have ci : (200 : Int) < t[i].kids.length := by omega
      refine ⟨[], h ++ [.row 3 [nodeV t[i]]], ?_⟩
      simp [b_law19_Large_0, h2, h3, hlt, c, ci]
    · have ci : ¬ ((200 : Int) < t[i].kids.length) := by omega
      refine ⟨fr', h', ?_⟩
      simp only [c, decide_false, Bool.false_or]
      rw [← ih]
      simp [b_law19_Large_0, h2, h3, hlt, c, ci, hw]
theorem law19_Large (t : List Nd) (h : List Ob) : acw C n_law19_Large [treeV t] h = some (.ret (.bool (largeT t)), h) := by
  refine acw_ex (v := .bool (largeT t)) (CT T_law19_Large) rfl rfl (fun _ => rfl) (by simp) ?_
  by_cases c : 200 < t.length
  · have ci : (200 : Int) < t.length := by omega
    have e : largeT t = true := by simp [largeT, c]
    rw [e]
    simp [runW_fin, F_law19_Large, i_law19_Large, c, ci]
  · have ci : ¬ ((200 : Int) < t.length) := by omega
    obtain ⟨fr', h', lp⟩ := large_loop t (by omega) t.length 0 [] (by omega)
    simp only [List.drop_zero, Int.cast_ofNat_Int] at lp
    cases hw : wideT t with
    | true =>
      have e : largeT t = true := by simp [largeT, hw]
      simp only [hw, if_true] at lp
      rw [e]
      simp [runW_fin, F_law19_Large, i_law19_Large, c, ci, lp]
    | false =>
      simp only [hw, Bool.false_eq_true, if_false] at lp
      have km := ref19_May t (by omega)
      have ko := law19_Own t (by omega)
      cases hm : mayT t with
      | false =>
        rw [hm] at km
        have e : largeT t = false := by simp [largeT, hw, hm, c]
        rw [e]
        simp [runW_fin, F_law19_Large, i_law19_Large, c, ci, lp, ko, km]
      | true =>
        rw [hm] at km
        have ks := ref19_Sizes t hm
        have e : largeT t = decide (400 < foldU G1 (rootU t)) := by simp [largeT, hw, hm, c]
        rw [e]
        obtain ⟨p1, p2⟩ := mayT_len hm
        obtain ⟨m, hm2⟩ : ∃ m, t.length = m + 1 := ⟨t.length - 1, by omega⟩
        have g1 := vals_get (G := G1) (t := t) (i := t.length) (j := m) (by omega)
        have hr : unf t m = rootU t := by unfold rootU; rw [hm2]; rfl
        rw [hr] at g1
        have l1 := vals_len (G := G1) (t := t) (i := t.length)
        generalize vals G1 t t.length = V1 at *
        generalize vals G2 t t.length = V2 at *
        generalize foldU G1 (rootU t) = x at *
        have g3 : ∀ h : m < V1.length, V1[m]'h = iv x := fun _ => (List.getElem?_eq_some_iff.1 g1).2
        have w1 : IntKind.i64.wrap (m : Int) = m := wrap64 (by omega) (by omega)
        rw [hm2] at l1
        have ci2 : ¬ ((200 : Int) < (m : Int) + 1) := by omega
        rw [hm2] at lp
        simp only [Int.natCast_add, Int.cast_ofNat_Int] at lp
        simp [runW_fin, F_law19_Large, i_law19_Large, hm2, ci2, lp, ko, km, ks, l1, g1, g3, w1]
/-- of what is not more, how long the text is -/
theorem small_txt {t : List Nd} (hm : mayT t = true) (hl : largeT t = false) : (cntU (rootU t) : Int) = foldU G1 (rootU t) ∧ foldU G1 (rootU t) ≤ 400 ∧ t.length ≤ 200 := by
  simp only [largeT, hm, Bool.true_and, Bool.or_eq_false_iff, decide_eq_false_iff_not] at hl
  have h1 : foldU G1 (rootU t) ≤ 400 := by omega
  exact ⟨cnt_size _ (by unfold top; omega), h1, by omega⟩
end Go.RR.M
set_option linter.unusedVariables false
set_option linter.unusedSimpArgs false
set_option maxRecDepth 100000
set_option maxHeartbeats 4000000
namespace Go.RR
open Go.Lib
theorem roots_txt : ∀ (ts : List (List Nd)), (∀ t ∈ ts, mayT t = true ∧ cntU (rootU t) ≤ 400) → (txtL (ts.map rootU)).length ≤ 20000 * ts.length
  | [], _ => by simp [txtL]
  | t :: r, h => by
    obtain ⟨h1, h2⟩ := h t (by simp)
    have h3 := roots_txt r fun x hx => h x (by simp [hx])
    have h4 := txt_cnt h1 (t.length - 1) (by have := (mayT_len h1).1; omega)
    have h5 : (txtU (rootU t)).length ≤ 50 * cntU (rootU t) := h4
    simp only [List.map_cons, txtL, List.length_append, List.length_cons]
    omega
theorem pl_txt {kind pick : Int} {ts : List (List Nd)} (hp : plOK kind pick ts = true) (h : ∀ t ∈ ts, cntU (rootU t) ≤ 400) : (txtU (plU kind pick ts)).length ≤ 1000000000 := by
  obtain ⟨hf, hm⟩ := plOK_iff.1 hp
  have h1 := fits_kp hf
  have h2 := itoa_length_le kind (by omega) (by omega)
  have h3 := itoa_length_le pick (by omega) (by omega)
  have h4 := roots_txt ts fun t ht => ⟨hm t ht, h t ht⟩
  have h5 := fits_kids hf
  unfold plU
  rw [txtU]
  simp only [List.length_cons, List.length_append, List.length_nil]
  omega
theorem plT_len {kind pick : Int} {ts : List (List Nd)} (h : ∀ t ∈ ts, t.length ≤ 1000) : (plT kind pick ts).length ≤ 64001 := by
  unfold plT
  cases hp : plOK kind pick ts with
  | false => rw [if_neg (by simp)]; simp
  | true =>
    rw [if_pos rfl]
    obtain ⟨hf, hm⟩ := plOK_iff.1 hp
    have := (shU_sub _ (plL_cl hm) (plU kind pick ts) [] Good.nil .nil (plL_root (kind := kind) (pick := pick))).len (shU_spec _ [] Good.nil).1
    have := plL_len (kind := kind) (pick := pick) h (fits_kids hf)
    omega
theorem plT_kids {kind pick : Int} {ts : List (List Nd)} (h : ∀ t ∈ ts, t.length ≤ 1000) : ∀ n ∈ plT kind pick ts, n.kids.length ≤ 4611686018427387904 := by
  intro n hn
  cases hp : plOK kind pick ts with
  | false => unfold plT at hn; rw [hp, if_neg (by simp)] at hn; simp at hn
  | true =>
    have hm := (plT_may hp (by have := plT_len (kind := kind) (pick := pick) h; omega)).1
    obtain ⟨i, hi, rfl⟩ := List.mem_iff_getElem.1 hn
    have := mayT_kids hm i hi
    omega
theorem shareT_kids (t : List Nd) : ∀ n ∈ shareT t, n.kids.length ≤ 4611686018427387904 := by
  intro n hn
  have := (M.share_ndB t n hn).2.2.2
  omega
theorem shareT_len {t : List Nd} (h : t.length ≤ 200) : (shareT t).length ≤ 200 := by
  cases hm : mayT t with
  | false => rw [share_no hm]; simp
  | true => have := share_len hm; omega
end Go.RR
namespace Go.RR.M
open Go Go.RR Go.Lib
theorem tells (a b : List Nd) (kind pick : Int) (h : List Ob) : acw C n_law19_TreeTells [treeV a, treeV b, iv kind, iv pick] h = some (.ret (.bool true), h) := by
  refine acw_ex (v := .bool true) (CT T_law19_TreeTells) rfl rfl (fun _ => rfl) (by simp) ?_
  have kaw := awake
  have kl1 := law19_Large a
  have kl2 := law19_Large b
  cases hl1 : largeT a with
  | true =>
    rw [hl1] at kl1
    simp [runW_fin, F_law19_TreeTells, i_law19_TreeTells, kaw, kl1]
  | false =>
    rw [hl1] at kl1
    cases hl2 : largeT b with
    | true =>
      rw [hl2] at kl2
      simp [runW_fin, F_law19_TreeTells, i_law19_TreeTells, kaw, kl1, kl2]
    | false =>
      rw [hl2] at kl2
      have la : a.length ≤ 200 := by
        simp only [largeT, Bool.or_eq_false_iff, decide_eq_false_iff_not] at hl1
        omega
      have lb : b.length ≤ 200 := by
        simp only [largeT, Bool.or_eq_false_iff, decide_eq_false_iff_not] at hl2
        omega
      have sa := fun hm => small_txt (t := a) hm hl1
      have sb := fun hm => small_txt (t := b) hm hl2
      have ta : mayT a = true → (txtU (rootU a)).length ≤ 1000000000 := fun hm => by
        have h1 : (txtU (rootU a)).length ≤ 50 * cntU (rootU a) := txt_cnt hm (a.length - 1) (by have := (mayT_len hm).1; omega)
        have := sa hm
        omega
      have tb : mayT b = true → (txtU (rootU b)).length ≤ 1000000000 := fun hm => by
        have h1 : (txtU (rootU b)).length ≤ 50 * cntU (rootU b) := txt_cnt hm (b.length - 1) (by have := (mayT_len hm).1; omega)
        have := sb hm
        omega
      have ko1 := law19_Own a (by omega)
      have ko2 := law19_Own b (by omega)
      have km1 := tree_May a (by omega)
      have kr1 := ref19_May a (by omega)
      have kr2 := ref19_May b (by omega)
      have kS := tree_Size a (by omega)
      have kD := tree_Depth a (by omega)
      have kM := tree_Same a b (by omega) (by omega)
      have kH := tree_Share a (by omega)
      have kR := ref19_Share a (by omega) ta
      have koh := law19_Own (shareT a) (by have := shareT_len la; omega)
      have keh := ref19_Equal (shareT a) (shareT a) (by have := shareT_len la; omega) (shareT_kids a)
      have hl2' : ∀ t ∈ [a, b], t.length ≤ 1000 := by simp; omega
      have hl1' : ∀ t ∈ [a], t.length ≤ 1000 := by simp; omega
      have hc2 : plOK kind pick [a, b] = true → (txtU (plU kind pick [a, b])).length ≤ 1000000000 := fun hp => pl_txt hp fun t ht => by
        have hm := (plOK_iff.1 hp).2 t ht
        rcases List.mem_cons.1 ht with rfl | ht
        · have := sa hm; omega
        · rw [List.mem_singleton.1 ht] at hm ⊢
          have := sb hm; omega
      have hc1 : plOK kind pick [a] = true → (txtU (plU kind pick [a])).length ≤ 1000000000 := fun hp => pl_txt hp fun t ht => by
        have hm := (plOK_iff.1 hp).2 t ht
        rw [List.mem_singleton.1 ht] at hm ⊢
        have := sa hm; omega
      have kp2 := tree_Plant kind pick [a, b] hl2' (by simp)
      have rp2 := ref19_Plant kind pick [a, b] hl2' (by simp) hc2
      have kp1 := tree_Plant kind pick [a] hl1' (by simp)
      have rp1 := ref19_Plant kind pick [a] hl1' (by simp) hc1
      have op2 := law19_Own (plT kind pick [a, b]) (by have := plT_len (kind := kind) (pick := pick) hl2'; omega)
      have op1 := law19_Own (plT kind pick [a]) (by have := plT_len (kind := kind) (pick := pick) hl1'; omega)
      have ep2 := ref19_Equal (plT kind pick [a, b]) (plT kind pick [a, b]) (by have := plT_len (kind := kind) (pick := pick) hl2'; omega) (plT_kids hl2')
      have ep1 := ref19_Equal (plT kind pick [a]) (plT kind pick [a]) (by have := plT_len (kind := kind) (pick := pick) hl1'; omega) (plT_kids hl1')
      simp only [decide_true, List.map_cons, List.map_nil] at keh kp2 rp2 kp1 rp1 ep2 ep1
      have b2 : bsfL (.nsl 3) [treeV a, treeV b] = some (.sl 1 [treeV a, treeV b]) := rfl
      have b1 : bsfL (.nsl 3) [treeV a] = some (.sl 1 [treeV a]) := rfl
      cases hm1 : mayT a with
      | false =>
        rw [hm1] at km1 kr1
        have e1 : sizeT a = 0 := by unfold sizeT; rw [hm1]; rfl
        have e2 : depthT a = 0 := by unfold depthT; rw [hm1]; rfl
        have e3 : sameT a b = false := by rw [sameT_eq, hm1]; rfl
        rw [e1] at kS
        rw [e2] at kD
        rw [e3] at kM
        generalize shareT a = S at *
        generalize plT kind pick [a, b] = P2 at *
        generalize plT kind pick [a] = P1 at *
        generalize plE kind pick [a, b] = E2 at *
        generalize plE kind pick [a] = E1 at *
        simp [runW_fin, F_law19_TreeTells, i_law19_TreeTells, kaw, kl1, kl2, ko1, ko2, km1, kr1, kr2, kS, kD, kM, kH, kR, koh, keh, kp2, rp2, kp1, rp1, op2, op1, ep2, ep1, b2, b1]
      | true =>
        rw [hm1] at km1 kr1
        have ks := ref19_Sizes a hm1
        have kt1 := ref19_Text a hm1 (ta hm1)
        obtain ⟨m, hm2⟩ : ∃ m, a.length = m + 1 := ⟨a.length - 1, by have := (mayT_len hm1).1; omega⟩
        have g1 := vals_get (G := G1) (t := a) (i := a.length) (j := m) (by omega)
        have g2 := vals_get (G := G2) (t := a) (i := a.length) (j := m) (by omega)
        have hr : unf a m = rootU a := by unfold rootU; rw [hm2]; rfl
        have e1 : sizeT a = foldU G1 (unf a m) := by unfold sizeT; rw [if_pos hm1, hm2]; rfl
        have e2 : depthT a = foldU G2 (unf a m) := by unfold depthT; rw [if_pos hm1, hm2]; rfl
        rw [e1] at kS
        rw [e2] at kD
        have l1 := vals_len (G := G1) (t := a) (i := a.length)
        have l2 := vals_len (G := G2) (t := a) (i := a.length)
        generalize vals G1 a a.length = V1 at *
        generalize vals G2 a a.length = V2 at *
        generalize foldU G1 (unf a m) = x1 at *
        generalize foldU G2 (unf a m) = x2 at *
        have g3 : ∀ h : m < V1.length, V1[m]'h = iv x1 := fun _ => (List.getElem?_eq_some_iff.1 g1).2
        have g4 : ∀ h : m < V2.length, V2[m]'h = iv x2 := fun _ => (List.getElem?_eq_some_iff.1 g2).2
        rw [hm2] at l1 l2
        have w1 : IntKind.i64.wrap (m : Int) = m := wrap64 (by omega) (by omega)
        have hS := sameT_eq a b
        cases hmb : mayT b with
        | false =>
          rw [hmb] at kr2
          have e3 : sameT a b = false := by rw [hS, hmb]; simp
          rw [e3] at kM
          clear hS
          generalize shareT a = S at *
          generalize plT kind pick [a, b] = P2 at *
          generalize plT kind pick [a] = P1 at *
          generalize plE kind pick [a, b] = E2 at *
          generalize plE kind pick [a] = E1 at *
          simp [runW_fin, F_law19_TreeTells, i_law19_TreeTells, kaw, kl1, kl2, ko1, ko2, km1, kr1, kr2, ks, l1, l2, g1, g2, g3, g4, w1, ieq, ine, kS, kD, kM, kH, kR, koh, keh, kp2, rp2, kp1, rp1, op2, op1, ep2, ep1, b2, b1]
        | true =>
          rw [hmb] at kr2
          have kt2 := ref19_Text b hmb (tb hmb)
          have e3 : (txtU (rootU a) == txtU (rootU b)) = sameT a b := by
            rw [hS, hm1, hmb]
            by_cases c : rootU a = rootU b
            · simp [c]
            · have c2 : ¬ (txtU (rootU a) = txtU (rootU b)) := fun e => c (txtU_inj e)
              simp [c, c2]
          clear hS
          generalize sameT a b = sm at *
          generalize txtU (rootU a) = A at *
          generalize txtU (rootU b) = B at *
          generalize shareT a = S at *
          generalize plT kind pick [a, b] = P2 at *
          generalize plT kind pick [a] = P1 at *
          generalize plE kind pick [a, b] = E2 at *
          generalize plE kind pick [a] = E1 at *
          simp [runW_fin, F_law19_TreeTells, i_law19_TreeTells, kaw, kl1, kl2, ko1, ko2, km1, kr1, kr2, ks, kt1, kt2, e3, l1, l2, g1, g2, g3, g4, w1, ieq, ine, kS, kD, kM, kH, kR, koh, keh, kp2, rp2, kp1, rp1, op2, op1, ep2, ep1, b2, b1]
end Go.RR.M
set_option linter.unusedVariables false
namespace Go.RR
open Go
abbrev nodeSh : Sh := .st (.cons (.int .i64) (.cons (.int .i64) (.cons intsSh .nil)))
theorem has_node {vs : List V} (h : Has nodeSh vs) : ∃ s : Nd, nodeSh.mk vs = nodeV s := by
  unfold nodeSh at h
  rw [Has] at h
  simp only [HasF] at h
  obtain ⟨a1, b1, rfl, h1, a2, b2, rfl, h2, a3, b3, rfl, h3, rfl⟩ := h
  obtain ⟨k, rfl, -⟩ := has_int h1
  obtain ⟨p, rfl, -⟩ := has_int h2
  obtain ⟨l, rfl, -⟩ := has_ints h3
  exact ⟨⟨k, p, l⟩, rfl⟩
theorem has_tree {vs : List V} (h : Has (.sl nodeSh) vs) : ∃ t : List Nd, vs = [treeV t] ∧ t.length ≤ maxLen :=
  has_sl (enc := nodeV) (e := nodeSh) (fun cs hc => has_node hc) h
end Go.RR
