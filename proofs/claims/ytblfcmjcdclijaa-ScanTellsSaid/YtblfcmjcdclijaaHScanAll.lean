/- The tokens of any text: what the Go function Scan does, as a function of lists. -/
import Derived.Test.YtblfcmjcdclijaaHScan
import Derived.Deep.DeepMust
namespace Go.Proofs.Ytblfcmjcdclijaa.QS
open Go.RowKit Go.Proofs.YtblfcmjcdclijaaW.PrintWords Go.Proofs.YtblfcmjcdclijaaW.PrintLast Go.Proofs.YtblfcmjcdclijaaW.PrintMore
set_option linter.unusedSimpArgs false
set_option linter.unusedVariables false
/-- The tokens from a place on, behind those that were found. -/
def scanF (s : ByteArray) : Nat → Nat → List S57 → List S57 × Int × Int
  | 0, _, acc => (acc, 0, 0)
  | f + 1, k, acc =>
    if k < s.size then
      if bt s k = 32 ∨ bt s k = 10 then scanF s f (k + 1) acc
      else if (firstF (s.extract k s.size)).1 = 0 then ([], (k : Int), 2)
      else if 1099511627776 < (firstF (s.extract k s.size)).2.2.1 then ([], (k : Int), 5)
      else scanF s f (k + (firstF (s.extract k s.size)).2.1.size) (acc ++ [⟨(firstF (s.extract k s.size)).1, (firstF (s.extract k s.size)).2.1, (firstF (s.extract k s.size)).2.2.1, (k : Int)⟩])
    else (acc, 0, 0)
theorem scanF_end (s : ByteArray) (f k : Nat) (acc : List S57) (h : ¬ k < s.size) : scanF s f k acc = (acc, 0, 0) := by
  cases f with
  | zero => rfl
  | succ f => simp only [scanF]; rw [if_neg h]
theorem infoTok : (Try.prog.info? 57).map (fun i => (i.zero, i.size, i.bytes)) = some (some (.agg #[(.int .i64 0), (.string ⟨#[]⟩), (.int .i64 0), (.int .i64 0)]), 4, 40) := by kernel_rfl
def scan_Scan.f (s : ByteArray) : Option (List S57 × Int × Int) := if s.size ≤ 140737488351232 then some (if 4000 < s.size then ([], 0, 5) else scanF s (s.size + 1) 0 []) else none
theorem first_size (s : ByteArray) (h0 : 0 < s.size) : (firstF s).2.1.size ≤ s.size ∧ ((firstF s).1 ≠ 0 → 1 ≤ (firstF s).2.1.size) := by
  have hl := fun p => runLen_le p s.data.toList
  have e0 : s.data.toList = s.data.toList[0]'(by simpa using h0) :: s.data.toList.drop 1 := by
    have e := List.drop_eq_getElem_cons (show 0 < s.data.toList.length by simpa using h0)
    rwa [List.drop_zero] at e
  have hpos : ∀ p : Int → Bool, p (bt s 0) = true → 1 ≤ runLen p s.data.toList := by
    intro p hp
    rw [show bt s 0 = ((s[0]'h0).toNat : Int) from bt0 s 0 h0] at hp
    rw [e0]
    simp only [runLen]
    rw [if_pos (show p ((s.data.toList[0]'(by simpa using h0)).toNat : Int) = true from hp)]
    omega
  have hpart : letB (bt s 0) = true → partB (bt s 0) = true := by intro h; simp [partB, h]
  have hsz : s.data.toList.length = s.size := by simp
  have a := hl partB
  have b := hl digB
  unfold firstF
  split
  · rename_i h; have := hpos partB (hpart h); simp; omega
  · split
    · rename_i h; have := hpos digB h; simp; omega
    · split
      · simp; omega
      · split
        · simp; omega
        · exact ⟨Nat.zero_le _, fun h => absurd rfl h⟩
set_option maxHeartbeats 1600000 in
set_option maxRecDepth 100000 in
theorem scan_Scan.calls (s : ByteArray) (r1 : List S57) (r2 r3 : Int) (w : World) (hG : GOK w) (h : scan_Scan.f s = some (r1, r2, r3)) :
    Calls Try.prog 29 #[.string s] w fun e w' => ∃ v0_ : Value, e = .returned (.tuple #[v0_, .int .i64 r2, .int .i64 r3]) ∧ Kd.R k57 57 w' w.heap.size (fun _ => True) v0_ r1 ∧ Below w.heap.size w w' := by
  unfold scan_Scan.f at h
  by_cases hz : s.size ≤ 140737488351232
  case neg => rw [if_neg hz] at h; exact absurd h (by simp)
  rw [if_pos hz] at h
  have h := Option.some.inj h
  by_cases hs : 4000 < s.size
  · rw [if_pos hs] at h
    simp only [Prod.mk.injEq] at h
    obtain ⟨rfl, rfl, rfl⟩ := h
    have hs' : decide (4000 < (s.size : Int)) = true := decide_eq_true (by omega)
    clear hG
    go_enter Try.func29, Try.ntmps29
    go_wp2
    go_ret3
    exact ⟨_, rfl, Kd.R_nil _ _ _ _ _, Below.refl _ _⟩
  rw [if_neg hs] at h
  have HR := Aside0.mk h
  have HG := Aside0.mk hG
  clear hG h
  have hs' : decide (4000 < (s.size : Int)) = false := decide_eq_false (by omega)
  have hs4 : s.size ≤ 4000 := by omega
  clear hs
  go_enter Try.func29, Try.ntmps29
  go_wp2
  go_loopw [5, 6] (fun v i wr => ∃ (k f : Nat) (l : List S57), k ≤ s.size ∧ i = .int .i64 k ∧ Aside0 (l.length ≤ k ∧ s.size < f + k ∧ scanF s f k l = (r1, r2, r3)) ∧ Aside0 (Kd.R k57 57 wr w.heap.size (fun _ => True) v l) ∧ Aside0 (Below w.heap.size w wr)) (fun _ i _ => s.size - (intOf i).toNat)
  case atStart => exact ⟨0, s.size + 1, [], Nat.zero_le _, rfl, ⟨Nat.le_refl _, by omega, HR.out⟩, ⟨Kd.R_nil _ _ _ _ _⟩, ⟨Below.refl _ _⟩⟩
  case round =>
    obtain ⟨k, f, l, hk, rfl, HL, HO, HB⟩ := hrel
    by_cases hlt : k < s.size
    · obtain ⟨f, rfl⟩ : ∃ g, f = g + 1 := ⟨f - 1, by have := HL.out.2.1; omega⟩
      have HS := HL.out.2.2
      simp only [scanF] at HS
      rw [if_pos hlt] at HS
      have hbt : bt s k = ((s[k]'hlt).toNat : Int) := bt0 s k hlt
      rw [hbt] at HS
      clear hbt
      have hk1 : (k : Int) ≤ s.size := by omega
      by_cases hsp : ((s[k]'hlt).toNat : Int) = 32 ∨ ((s[k]'hlt).toNat : Int) = 10
      · rw [if_pos hsp] at HS
        have HS := Aside0.mk HS
        by_cases h32 : (((s[k]'hlt).toNat : Int) == 32) = true
        · clear hsp
          go_wp2
          go_roundw
          case rel => exact ⟨k + 1, f, l, by omega, by go_num, ⟨by have := HL.out; omega, by have := HL.out; omega, HS.out⟩, HO, HB⟩
          case measure => simp [intOf]; omega
        · have h10 : (((s[k]'hlt).toNat : Int) == 10) = true := by
            rcases hsp with h | h
            · exact absurd (by simpa using h) h32
            · simpa using h
          replace h32 := Bool.eq_false_iff.2 h32
          clear hsp
          go_wp2
          go_roundw
          case rel => exact ⟨k + 1, f, l, by omega, by go_num, ⟨by have := HL.out; omega, by have := HL.out; omega, HS.out⟩, HO, HB⟩
          case measure => simp [intOf]; omega
      rw [if_neg hsp] at HS
      have h32 : (((s[k]'hlt).toNat : Int) == 32) = false := beq_eq_false_iff_ne.2 (fun h => hsp (.inl h))
      have h10 : (((s[k]'hlt).toNat : Int) == 10) = false := beq_eq_false_iff_ne.2 (fun h => hsp (.inr h))
      clear hsp
      have hsz : (s.extract k s.size).size = s.size - k := by simp
      have hsz2 := first_size (s.extract k s.size) (by omega)
      have HF : Aside0 (scan_first.f (s.extract k s.size) = some (firstF (s.extract k s.size))) := ⟨by unfold scan_first.f; rw [if_pos ⟨by omega, by omega⟩]⟩
      obtain ⟨t1, t2, t3, t4, ht⟩ : ∃ t1 t2 t3 t4, firstF (s.extract k s.size) = (t1, t2, t3, t4) := ⟨_, _, _, _, rfl⟩
      rw [ht] at HS hsz2 HF
      simp only [hsz] at hsz2
      simp only at HS
      have HS := Aside0.mk HS
      have HZ := Aside0.mk hsz2
      clear ht hsz hsz2
      by_cases hk0 : t1 = 0
      · have HE : Aside0 (([] : List S57) = r1 ∧ (k : Int) = r2 ∧ 2 = r3) := ⟨by have h := HS.out; rw [if_pos hk0] at h; simpa using h⟩
        have hk0' : (t1 == 0) = true := by simpa using hk0
        clear hk0
        go_wp2_with (fail)
        refine (scan_first.calls _ t1 t2 t3 t4 _ (GOK.below HG.out HB.out) HF.out).mono ?_
        rintro e w1 ⟨rfl, hb⟩
        have HB2 := Aside0.mk (below_then HB.out HB.out.size hb)
        clear hb
        go_wp2
        go_ret3
        obtain ⟨rfl, rfl, rfl⟩ := HE.out
        exact ⟨_, rfl, Kd.R_nil _ _ _ _ _, by repeat (first | (refine below_set ?_ (below_size HB2.out)) | exact HB2.out | (refine below_alloc ?_ _))⟩
      have hk0' : (t1 == 0) = false := by simpa using hk0
      by_cases hbig : 1099511627776 < t3
      · have HE : Aside0 (([] : List S57) = r1 ∧ (k : Int) = r2 ∧ 5 = r3) := ⟨by have h := HS.out; rw [if_neg hk0, if_pos hbig] at h; simpa using h⟩
        have hbig' : decide (1099511627776 < t3) = true := decide_eq_true hbig
        clear hk0 hbig
        go_wp2_with (fail)
        refine (scan_first.calls _ t1 t2 t3 t4 _ (GOK.below HG.out HB.out) HF.out).mono ?_
        rintro e w1 ⟨rfl, hb⟩
        have HB2 := Aside0.mk (below_then HB.out HB.out.size hb)
        clear hb
        go_wp2
        go_ret3
        obtain ⟨rfl, rfl, rfl⟩ := HE.out
        exact ⟨_, rfl, Kd.R_nil _ _ _ _ _, by repeat (first | (refine below_set ?_ (below_size HB2.out)) | exact HB2.out | (refine below_alloc ?_ _))⟩
      have hbig' : decide (1099511627776 < t3) = false := decide_eq_false hbig
      have HE : Aside0 (scanF s f (k + t2.size) (l ++ [⟨t1, t2, t3, (k : Int)⟩]) = (r1, r2, r3) ∧ 1 ≤ t2.size) := ⟨by have h := HS.out; rw [if_neg hk0, if_neg hbig] at h; exact h, HZ.out.2 hk0⟩
      have h2 : t2.size ≤ s.size - k := HZ.out.1
      have h3 : (t2.size : Int) ≤ 4000 := by omega
      have h4 : (k : Int) ≤ 4000 := by omega
      clear hk0 hbig
      go_wp2_with (fail)
      refine (scan_first.calls _ t1 t2 t3 t4 _ (GOK.below HG.out HB.out) HF.out).mono ?_
      rintro e w1 ⟨rfl, hb⟩
      replace HO := Aside0.mk (Kd.R_elderB (Kd.R_below HO.out hb) w1.heap.size (Nat.le_refl _))
      have HB2 := Aside0.mk (below_then HB.out HB.out.size hb)
      clear hb
      go_wp2_with (first | ((with_reducible refine gate_builtin (b := .append) (xs := #[.tmp 43, .tmp 45]) rfl ?_); at_builtin; go_must (refine Kd.R_append k57 (w0 := w) w.heap.size rfl (.tmp 43) (.tmp 45) 47 57 (.agg #[(.int .i64 0), (.string ⟨#[]⟩), (.int .i64 0), (.int .i64 0)]) 40 rfl Try.underlying47 infoTok rfl (by decide) (by omega) u5 l ⟨t1, t2, t3, (k : Int)⟩ [.int .i64 t1, .string t2, .int .i64 t3, .int .i64 k] (fun j => True ∧ j ≠ w1.heap.size) (fun _ => False) rfl (by first | (go_simp; done) | (go_simp; rfl)) (k57_mkM _ _ _ _) (fun _ hk => hk.elim) (fun j hj => ⟨trivial, by simp at hj; omega⟩) ?aO ?aB ?aS ?aL ?_; (case aO => repeat (first | exact HO.out | (refine Kd.R_far ?_ (fun _ hk => hk.2) _) | (refine Kd.R_alloc ?_ _))); (case aB => repeat (first | (refine below_set ?_ (below_size HB2.out)) | exact HB2.out | (refine below_alloc ?_ _))); (case aS => have := below_size HB2.out; simp; omega); (case aL => have := HL.out.1; omega); intro v1 w2 ho hb hg hat; have n1 := Aside0.mk (Kd.R_mono (ok' := fun _ => True) ho (fun _ _ => trivial)); have n2 := Aside0.mk hb; have hc1 := hg.cell (a := ⟨w1.heap.size, 1, none⟩) (v := .string t2) (by go_simp) (fun e => absurd rfl (HO.out.1 _ e.symm).2); clear ho hb hg hat HO)))
      go_roundw
      case rel => exact ⟨k + t2.size, f, _, by omega, by go_num, ⟨by have := HL.out; have := HE.out; simp; omega, by have := HL.out; have := HE.out; omega, HE.out.1⟩, n1, n2⟩
      case measure => have := HE.out.2; simp [intOf]; omega
    · have e : k = s.size := by omega
      subst e
      have HE := HL.out.2.2
      rw [scanF_end _ _ _ _ (by omega)] at HE
      simp only [Prod.mk.injEq] at HE
      have HE := Aside0.mk HE
      go_wp2
      go_ret3
      obtain ⟨rfl, rfl, rfl⟩ := HE.out
      exact ⟨_, rfl, HO.out, HB.out⟩
end Go.Proofs.Ytblfcmjcdclijaa.QS
