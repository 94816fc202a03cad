/- slices.Clone, whose answer the caller writes: of an empty slice, too. -/
import Derived.Test.YtikihijfhgbffaaGreatDoorR5
set_option linter.unusedVariables false
set_option linter.unusedSimpArgs false
set_option linter.unusedVariables false
set_option linter.unusedSimpArgs false
namespace Go.RR
open Go.RowKit
variable {P : Program} {g : GW}
theorem clone0_ok {f : Nat} {z : V} {by_ : Nat} (hm : mClone P f z by_ = true) {h : List Ob} {us : Array Value} {w : World} {M : Nat → Prop} {ν : Nu} (hsz : us.size = 1) (hx : Rel w M ν (.sl z.size []) (us.getD 0 undef)) (hh0 : HR w M ν h) (hi : Inv (g.at .no) w M ν) :
  IsFn P f ∧ Calls P f us w fun e w' => ∃ M' ν', OutR w' M' ν' (.ret (.nsl z.size)) e ∧ Pst w M ν h w' M' ν' h := by
 unfold mClone at hm
 split at hm <;> try contradiction
 rename_i fn hfn
 split at hm <;> try contradiction
 rename_i i0 a i1 b i2 c i3 d hbody
 simp only [Bool.and_eq_true, Bool.not_eq_true', decide_eq_true_eq] at hm
 obtain ⟨⟨⟨⟨⟨⟨ma, mc⟩, md⟩, mr⟩, hname⟩, hnt⟩, mb⟩ := hm
 split at mb <;> try contradiction
 rename_i o1 o2 hb
 simp only [Bool.and_eq_true] at mb
 obtain ⟨mo1, mo2⟩ := mb
 refine ⟨⟨fn, hfn, by simp [hbody], hname⟩, (callsIn_wide (n := 0)).1 (callsIn_of_wp (F := FW none) hfn hbody trivial ?_)⟩
 have hcr : CRok P (g.at .no) ⟨fun _ _ _ => none, y0, fun _ _ _ _ => none⟩ := ⟨CallOK.none, YOK.y0 _ _, fun _ _ _ => CallOK.none⟩
 have hf : FrOK w M ν fn.ntmps [(0, .sl z.size [])] { tmps := us ++ Array.replicate (fn.ntmps - us.size) undef, defers := [] } := by
  refine ⟨fun t => ?_, by simp; omega⟩
  simp only [get_cons, get_nil]
  by_cases e : 0 = t
  ·subst e
   rw [if_pos rfl]
   have h0 : 0 < us.size := by omega
   have : (us ++ Array.replicate (fn.ntmps - us.size) undef).getD 0 undef = us.getD 0 undef := by
    simp only [Array.getD_eq_getD_getElem?]
    rw [Array.getElem?_append_left h0]
   rw [this]
   exact hx
  ·rw [if_neg e]
   exact .und
 have hd0 : ({ tmps := us ++ Array.replicate (fn.ntmps - us.size) undef, defers := [] } : Act).defers = [] := rfl
 generalize ({ tmps := us ++ Array.replicate (fn.ntmps - us.size) undef, defers := [] } : Act) = act at hf hd0 ⊢
 -- the end: what is handed back
 have fin : ∀ {M' : Nat → Prop} {ν' : Nu} {h' : List Ob} {fr' : Fr} {a' : Act} {w' : World} {v' : V}, FrOK w' M' ν' fn.ntmps fr' a' → HR w' M' ν' h' → get fr' 2 = v' → Pst w M ν h w' M' ν' h' →
   ∃ u, (results fn a'.tmps).run P w' = .ok u w' ∧ ∃ M1 ν1, OutR w' M1 ν1 (.ret v') (Ending.returned u) ∧ Pst w M ν h w' M1 ν1 h' := by
  intro M' ν' h' fr' a' w' v' hf' hh' hg hp
  obtain ⟨u, r1, r2⟩ := res_sound (P := P) hh' hf' mr (vs := [v']) (by simp [mapO, res1, hg])
  simp only [resV] at r2
  exact ⟨u, r1, M', ν', ⟨u, rfl, r2⟩, hp⟩
 refine wpIn_seq ?_
 refine wpIn_region_list (evIns_sound (ρ := none) hcr ma _ _ _ _ _ (show evIns _ _ [(0, .sl z.size [])] h = some (.nrm, [(2, .nsl z.size), (0, .sl z.size [])], h) by simp only [cl0]; simp [cl0]) act w M ν hf hh0 hi _ fun e a1 w1 M1 ν1 hx1 hf1 p1 hd1 => ?_)
 cases hx1
 refine wpIn_seq (wpIn_seq ?_)
 refine wpIn_region_list ?_
 have hi1 := hi.step (p1.same hh0) p1.hM p1.le
 rw [hb]
 unfold wpListIn
 have hg1 : o1.guard = none := by
  simp only [mIn, mG, Bool.and_eq_true] at mo1
  have := mo1.1.2
  split at this <;> first | assumption | contradiction
 have mx1 : mX P o1.op (.mov (.t 0)) = true := by
  have := mo1
  simp only [mIn, Bool.and_eq_true] at this
  exact this.2
 have hd1' : o1.dst = some 3 := by
  simp only [mIn, Bool.and_eq_true] at mo1
  exact (mD_inv mo1.1.1).1
 rw [if_pos (by simp [Region.wanted, hg1])]
 refine Oper.wpR_in (mX_nd mx1) ?_
 refine step1 hcr mo1 hf1 p1.hr hi1 (v := .sl z.size []) (h' := h) (by simp [step, op1]) fun u2 w2 M2 ν2 hv2 p2 => ?_
 have hf2 := (hf1.step p1.hr p2).put (d := some 3) (fun t e => by cases e; omega) hv2
 have hi2 := hi1.step (p2.same p1.hr) p2.hM p2.le
 have p02 := p1.trans p2
 have hd2 : (a1.put o1.dst u2).defers = act.defers := by rw [put_defers']; exact hd1
 rw [hd1'] at hd2 ⊢
 generalize a1.put (some 3) u2 = a2 at hf2 hd2 ⊢
 have hx3 := hf2.fr 3
 simp only [putO, get_cons, if_true] at hx3
 have hslice : ∃ ad c, a2.tmps.getD 3 undef = .slice ad 0 c := by
  generalize a2.tmps.getD 3 undef = u0 at hx3
  cases hx3 with
  | sl0 => exact ⟨_, _, rfl⟩
  | sl => exact ⟨_, _, rfl⟩
 obtain ⟨ad, c0, hu0⟩ := hslice
 unfold mNil at mo2
 simp only [Bool.and_eq_true, beq_iff_eq] at mo2
 obtain ⟨⟨hdst, hgd⟩, mop⟩ := mo2
 have hgd' : o2.guard = none := by simpa using hgd
 split at mop <;> try contradiction
 rename_i ty yt hop
 unfold wpListIn
 rw [if_pos (by simp [Region.wanted, hgd'])]
 refine Oper.wpR_in (fun c hc => by rw [hop] at hc; cases hc) ?_
 have hrun : (execOp a2.eval o2).run P w2 = .ok (.value (.bool ad.isNone)) w2 := by
  have := slice_nil_run (P := P) (w := w2) mop hu0 (.tmp 3) (.const (.slice none 0 0))
  simp only [execOp, hop]
  have e1 : a2.eval (.tmp 3) = a2.tmps.getD 3 undef := rfl
  have e2 : a2.eval (.const (.slice none 0 0)) = .slice none 0 0 := rfl
  rw [e1, e2]
  simp only [Sem.run_bind] at this ⊢
  rw [this]
  simp
 refine Oper.wpR_value hrun ?_
 rw [hdst]
 unfold wpListIn
 have hf3 := hf2.put (d := some 4) (fun t e => by cases e; omega) (v := .bool ad.isNone) (u := .bool ad.isNone) .bool
 have hd3 : (a2.put (some 4) (.bool ad.isNone)).defers = act.defers := by rw [put_defers']; exact hd2
 generalize a2.put (some 4) (.bool ad.isNone) = a3 at hf3 hd3 ⊢
 have h4 := hf3.fr 4
 simp only [putO, get_cons, if_true] at h4
 have h4 := h4.bool_inv
 show (Code.cond (.tmp 4) (.seq (.region i2 c false) .ret) .skip).wpIn (FW none) 0 P _ a3 w2
 cases hn : ad.isNone with
 | true =>
  rw [hn] at h4
  refine wpIn_cond_true h4 (wpIn_seq ?_)
  refine wpIn_region_list (evIns_sound (ρ := none) hcr mc _ _ _ _ _ (show evIns _ _ _ h = some (.nrm, (2, .nsl z.size) :: _, h) by simp only [cl0, in_mov]; rfl) a3 w2 M2 ν2 hf3 p2.hr hi2 _ fun e a4 w4 M4 ν4 hx4 hf4 p4 hd4 => ?_)
  cases hx4
  refine wpIn_ret ?_
  have p04 := p02.trans p4
  exact ⟨by rw [hd4, hd3, hd0], fin hf4 p4.hr (by simp) p04⟩
 | false =>
  rw [hn] at h4
  refine wpIn_cond_false h4 (wpIn_skip ?_)
  refine wpIn_seq ?_
  unfold cl3 at md
  obtain ⟨o3, l3, hdl⟩ : ∃ o l, d.toList = o :: l := by
   cases e : d.toList with
   | nil => rw [e] at md; simp [mIns] at md
   | cons o l => exact ⟨o, l, rfl⟩
  rw [hdl] at md
  have md' : mIn P fn.ntmps d o3 ⟨some 5, none, .bsl z 0 []⟩ = true ∧ mIns P fn.ntmps d l3 [⟨some 6, none, .mov (.t 0)⟩, ⟨some 7, none, .app z.size by_ (.t 5) (.t 6)⟩, ⟨some 2, none, .mov (.t 7)⟩] = true := by
   simpa [mIns] using md
  obtain ⟨mo3, mrest⟩ := md'
  have hg3 : o3.guard = none := by
   simp only [mIn, mG, Bool.and_eq_true] at mo3
   have := mo3.1.2
   split at this <;> first | assumption | contradiction
  have mx3 : mX P o3.op (.bsl z 0 []) = true := by
   have := mo3
   simp only [mIn, Bool.and_eq_true] at this
   exact this.2
  have hd5 : o3.dst = some 5 := by
   simp only [mIn, Bool.and_eq_true] at mo3
   exact (mD_inv mo3.1.1).1
  have hn5 : 5 < fn.ntmps := by
   simp only [mIn, Bool.and_eq_true] at mo3
   have := (mD_inv mo3.1.1).2
   exact this 5 rfl
  refine wpIn_region_list ?_
  rw [hdl]
  unfold wpListIn
  rw [if_pos (by simp [Region.wanted, hg3])]
  have mi3 : mI P o3.op (.bsl z 0 []) = true := mx3
  refine Oper.wpR_in (mX_nd mx3) ?_
  obtain ⟨et, cs', hrun3, r2, hlen, hz0⟩ := bsl_run (n := 0) (ps := []) (xs := []) mi3 hf3.fr rfl
  refine Oper.wpR_value hrun3 ?_
  have eh : (w2.alloc (.cells cs' et)).heap = w2.heap.push (.cells cs' et) := rfl
  have hst : Stp w2 (w2.alloc (.cells cs' et)) (fun _ => False) := stp_push eh rfl rfl rfl _
  have p3 : Pst w2 M2 ν2 h (w2.alloc (.cells cs' et)) M2 ν2 h := Pst.quiet p2.hr (fun b hb => hb) (fun b hb => .inl hb) (fun b hb => Nat.lt_of_lt_of_le (p2.hr.lt b hb) hst.size) hst
  have hf5 := (hf3.step p2.hr p3).put (d := some 5) (fun t e => by cases e; omega) (v := .nsl z.size) (u := .slice (some ⟨w2.heap.size, 0, none⟩) 0 0) .nsl
  have hi3 := hi2.step (p3.same p2.hr) p3.hM p3.le
  have p03 := p02.trans p3
  have hd6 : (a3.put (some 5) (.slice (some ⟨w2.heap.size, 0, none⟩) 0 0)).defers = act.defers := by rw [put_defers']; exact hd3
  rw [hd5]
  generalize a3.put (some 5) (.slice (some ⟨w2.heap.size, 0, none⟩) 0 0) = a5 at hf5 hd6 ⊢
  have hev : evIns ⟨fun _ _ _ => none, y0, fun _ _ _ _ => none⟩ [⟨some 6, none, .mov (.t 0)⟩, ⟨some 7, none, .app z.size by_ (.t 5) (.t 6)⟩, ⟨some 2, none, .mov (.t 7)⟩] (putO (putO (putO [(2, .nsl z.size), (0, .sl z.size [])] (some 3) (.sl z.size [])) (some 4) (.bool ad.isNone)) (some 5) (.nsl z.size)) h = some (.nrm, [(2, .nsl z.size), (7, .nsl z.size), (6, .sl z.size []), (5, .nsl z.size), (4, .bool ad.isNone), (3, .sl z.size []), (2, .nsl z.size), (0, .sl z.size [])], h) := by
   simp [appV, op1, src, elems]
  refine evIns_sound (ρ := none) hcr mrest _ _ _ _ _ hev a5 _ M2 ν2 hf5 p3.hr hi3 _ fun e a4 w4 M4 ν4 hx4 hf4 p4 hd4 => ?_
  cases hx4
  refine wpIn_ret ?_
  have p04 := p03.trans p4
  exact ⟨by rw [hd4, hd6, hd0], fin hf4 p4.hr (by simp) p04⟩
/-- slices.Clone, whose answer the caller writes; an empty one has no room -/
def cloneE (z by_ : Nat) : List V → List Ob → Option (Out × List Ob)
 | [.sl z' []], h => if z' = z then some (.ret (.nsl z), h) else none
 | a, h => cloneH z by_ a h
theorem cloneE_ok {f : Nat} {z : V} {by_ : Nat} (hm : mClone P f z by_ = true) {args : List V} {h : List Ob} {out : Out} {h1 : List Ob} (hS : cloneE z.size by_ args h = some (out, h1)) {us : Array Value} {w : World} {M : Nat → Prop} {ν : Nu} (hsz : us.size = args.length) (hr : ∀ i (hi : i < args.length), Rel w M ν args[i] (us.getD i undef)) (hh0 : HR w M ν h) (hi : Inv (g.at .no) w M ν) :
  IsFn P f ∧ Calls P f us w fun e w' => ∃ M' ν', OutR w' M' ν' out e ∧ Pst w M ν h w' M' ν' h1 := by
 unfold cloneE at hS
 split at hS
 ·rename_i z'
  split at hS <;> try contradiction
  rename_i hz
  subst hz
  cases hS
  have hx := hr 0 (by simp)
  simp only [List.getElem_cons_zero] at hx
  exact clone0_ok (g := g) hm (by simpa using hsz) hx hh0 hi
 ·exact cloneH_ok (g := g) hm hS hsz hr hh0 hi
end Go.RR
