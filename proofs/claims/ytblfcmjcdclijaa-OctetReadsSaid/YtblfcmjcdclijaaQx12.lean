-- Written by a program of this session out of the translation (its base: the print program of the kit), in places turned by hand; Lean checks it.
import Derived.Test.YtblfcmjcdclijaaQx0
import Derived.Test.YtblfcmjcdclijaaQx10
import Derived.Test.YtblfcmjcdclijaaQx11
namespace Go.Proofs.Ytblfcmjcdclijaa.Q
open Go.RowKit Go.Proofs.YtblfcmjcdclijaaW.PrintWords Go.Proofs.YtblfcmjcdclijaaW.PrintLast Go.Proofs.YtblfcmjcdclijaaW.PrintMore
attribute [local go_sem] max2_int min2_int max_two min_two max_three min_three max_four min_four   -- for this text's walks alone
set_option linter.unusedVariables false
set_option linter.unusedSimpArgs false

/-! ### stratagemref06_Put: function 11 -/
def stratagemref06_Put.f (k : Nat) (a0 : Int) : Option (List Int × Int) := if a0 ≥ 4611686018427387904 then (some (([] : List Int), 5)) else ((stratagemref06_size.f a0).bind fun t115 => ((stratagemref06_bytes.f k a0 t115).bind fun t116 => ((some (([0, 0, 64, 0, 128, 0, 0, 0, 192] : List Int) : List Int)).bind fun y119 => (if 0 < (t116.length : Int) then ((stratagemref06_size.f a0).bind fun t123 => (if 0 ≤ t123 then (if t123 < (y119.length : Int) then (some ((t116.set (0 : Int).toNat (((rd t116 0) + (rd y119 t123)) % 256)), 0)) else (none)) else (none))) else (none)))))
theorem stratagemref06_Put.mono : ∀ a0 k, LeO (stratagemref06_Put.f k a0) (stratagemref06_Put.f (k + 1) a0) := by
  intro a0 k
  unfold stratagemref06_Put.f
  repeat' first
      | (with_reducible exact stratagemref06_bytes.mono _ _ _)
      | (with_reducible exact LeO.refl _)
      | (with_reducible exact LeO.none _)
      | (with_reducible refine LeO.ite ?_ ?_)
      | (with_reducible refine LeO.bind ?_ (fun _ => ?_))
      | exact stratagemref06_bytes.mono _ _ _
      | exact LeO.none _
      | refine LeO.ite ?_ ?_
      | refine LeO.bind ?_ (fun _ => ?_)
def stratagemref06_Put.T5 : Bool × List (List Nat × List Nat) := (true, [([], []), ([], []), ([1], [1]), ([2], [2]), ([], []), ([], []), ([5], [5]), ([4, 6], [4, 6]), ([7], [7]), ([3, 8], [3, 8]), ([0, 0, 1, 2, 3, 4, 5, 6, 7, 8, 9], [0]), ([10, 9, 6, 0, 1, 2, 3, 4, 5, 6, 7, 8, 9], [9, 10])])
def stratagemref06_Put.B5 : List Nat := [0, 0, 2, 6, 0, 0, 32, 112, 240, 510, 1023, 2047]
theorem stratagemref06_Put.tab5 : rtab .any (opsOf Try.f11 5) = stratagemref06_Put.T5 := by kernel_rfl
theorem stratagemref06_Put.bits5 : waitsOk stratagemref06_Put.T5.2 stratagemref06_Put.B5 = true := by kernel_rfl
set_option maxHeartbeats 8000000 in
set_option maxRecDepth 100000 in
theorem stratagemref06_Put.calls (k : Nat) (a0 : Int) (r1 : List Int) (r2 : Int) (w : World) (h : stratagemref06_Put.f k a0 = some (r1, r2)) :
    Calls Try.prog 11 #[.int .u64 a0] w fun e w' => ∃ v0_ : Value, e = .returned (.tuple #[v0_, .int .i64 r2]) ∧ Kd.R (Kd.int .u8) 5 w' w.heap.size (fun _ => True) v0_ r1 ∧ Below w.heap.size w w' := by
  have HB := Aside0.mk (Below.refl w.heap.size w)
  have H : (if a0 ≥ 4611686018427387904 then (some (([] : List Int), 5)) else ((stratagemref06_size.f a0).bind fun t115 => ((stratagemref06_bytes.f k a0 t115).bind fun t116 => ((some (([0, 0, 64, 0, 128, 0, 0, 0, 192] : List Int) : List Int)).bind fun y119 => (if 0 < (t116.length : Int) then ((stratagemref06_size.f a0).bind fun t123 => (if 0 ≤ t123 then (if t123 < (y119.length : Int) then (some ((t116.set (0 : Int).toNat (((rd t116 0) + (rd y119 t123)) % 256)), 0)) else (none)) else (none))) else (none)))))) = some (r1, r2) := h
  clear h
  by_cases c2 : a0 ≥ 4611686018427387904
  · rw [if_pos c2] at H
    have c2b0 : decide (4611686018427387904 ≤ a0) = true := decide_eq_true c2
    clear c2
    simp only [Option.some.injEq, Prod.mk.injEq] at H
    obtain ⟨rfl, rfl⟩ := H
    go_enter Try.func11, Try.ntmps11
    go_wp2
    go_ret2
    exact ⟨_, by first | rfl | (simp [errW_none, errW_some] <;> rfl) | (simp [*, errW_none, errW_some] <;> rfl), by first | exact Kd.R_nil _ _ _ _ _ | exact Kd.N_nil _ _ _ _ _ | exact Kd.V_nil _ _ _ _ _ | exact Kd.Q_nil _ _ _ _ _ | exact Kd.S_nil _ _ _ _ _, by repeat (first | (with_reducible first | exact HB.out | apply below_alloc | apply pw_below_drewN | apply below_drew1) | exact HB.out)⟩
  · rw [if_neg c2] at H
    have c2b0 : decide (4611686018427387904 ≤ a0) = false := decide_eq_false c2
    clear c2
    replace H := Option.bind_eq_some_iff.mp H
    obtain ⟨t115, A30, H⟩ := H
    replace H : ((stratagemref06_bytes.f k a0 t115).bind fun t116 => ((some (([0, 0, 64, 0, 128, 0, 0, 0, 192] : List Int) : List Int)).bind fun y119 => (if 0 < (t116.length : Int) then ((stratagemref06_size.f a0).bind fun t123 => (if 0 ≤ t123 then (if t123 < (y119.length : Int) then (some ((t116.set (0 : Int).toNat (((rd t116 0) + (rd y119 t123)) % 256)), 0)) else (none)) else (none))) else (none)))) = some (r1, r2) := H
    have A3 := Aside0.mk A30
    clear A30
    replace H := Option.bind_eq_some_iff.mp H
    obtain ⟨t116, A40, H⟩ := H
    replace H : ((some (([0, 0, 64, 0, 128, 0, 0, 0, 192] : List Int) : List Int)).bind fun y119 => (if 0 < (t116.length : Int) then ((stratagemref06_size.f a0).bind fun t123 => (if 0 ≤ t123 then (if t123 < (y119.length : Int) then (some ((t116.set (0 : Int).toNat (((rd t116 0) + (rd y119 t123)) % 256)), 0)) else (none)) else (none))) else (none))) = some (r1, r2) := H
    have A4 := Aside0.mk A40
    clear A40
    obtain ⟨y119, hy119⟩ : ∃ y_ : List Int, y_ = (([0, 0, 64, 0, 128, 0, 0, 0, 192] : List Int)) := ⟨_, rfl⟩
    replace H : (if 0 < (t116.length : Int) then ((stratagemref06_size.f a0).bind fun t123 => (if 0 ≤ t123 then (if t123 < (y119.length : Int) then (some ((t116.set (0 : Int).toNat (((rd t116 0) + (rd y119 t123)) % 256)), 0)) else (none)) else (none))) else (none)) = some (r1, r2) := by first | (rw [hy119]; with_reducible exact H) | (have H2_ := (Option.bind_some _ _).symm.trans H; rw [hy119]; with_reducible exact H2_) | (have H2_ := (Option.bind_some _ _).symm.trans H; with_reducible exact H2_) | with_reducible exact H | (rw [hy119]; exact H) | exact H
    have Ny119 := Aside0.mk hy119
    clear hy119
    by_cases c5 : 0 < (t116.length : Int)
    · rw [if_pos c5] at H
      have c5b0 : decide (0 < (t116.length : Int)) = true := decide_eq_true c5
      have c5b1 : decide (0 < t116.length) = true := decide_eq_true (by omega)
      clear c5
      replace H := Option.bind_eq_some_iff.mp H
      obtain ⟨t123, A60, H⟩ := H
      replace H : (if 0 ≤ t123 then (if t123 < (y119.length : Int) then (some ((t116.set (0 : Int).toNat (((rd t116 0) + (rd y119 t123)) % 256)), 0)) else (none)) else (none)) = some (r1, r2) := H
      have A6 := Aside0.mk A60
      clear A60
      by_cases c7 : 0 ≤ t123
      · rw [if_pos c7] at H
        have c7b0 : decide (0 ≤ t123) = true := decide_eq_true c7
        clear c7
        by_cases c8 : t123 < (y119.length : Int)
        · rw [if_pos c8] at H
          have c8b0 : decide (t123 < (y119.length : Int)) = true := decide_eq_true c8
          clear c8
          obtain ⟨y125, hy125⟩ : ∃ y_ : List Int, y_ = (t116.set (0 : Int).toNat (((rd t116 0) + (rd y119 t123)) % 256)) := ⟨_, rfl⟩
          replace H : (some (y125, 0)) = some (r1, r2) := by first | (rw [hy125]; with_reducible exact H) | (have H2_ := (Option.bind_some _ _).symm.trans H; rw [hy125]; with_reducible exact H2_) | (have H2_ := (Option.bind_some _ _).symm.trans H; with_reducible exact H2_) | with_reducible exact H | (rw [hy125]; exact H) | exact H
          have Ny125 := Aside0.mk hy125
          clear hy125
          simp only [Option.some.injEq, Prod.mk.injEq] at H
          obtain ⟨rfl, rfl⟩ := H
          go_enter Try.func11, Try.ntmps11
          try go_wp2_with (first | ((with_reducible refine gate_callee (f := 35) rfl ?_); refine goesL_ (some 10) rfl rfl Try.func35 (by kernel_rfl) rfl #[.int .u64 a0] rfl (by (try simp only [List.map_toArray, List.map_cons, List.map_nil]); first | done | rfl | (simp only [List.length_drop, List.length_take]; rfl)) ?_; (with_reducible refine (stratagemref06_size.calls a0 t115 _ A3.out).mono ?_); rintro e w' ⟨rfl, ⟨nd, rfl⟩⟩; refine ⟨_, rfl, ?_⟩) | ((with_reducible refine gate_callee (f := 34) rfl ?_); refine goesL_ (some 11) rfl rfl Try.func34 (by kernel_rfl) rfl #[.int .u64 a0, .int .i64 t115] rfl (by (try simp only [List.map_toArray, List.map_cons, List.map_nil]); first | done | rfl | (simp only [List.length_drop, List.length_take]; rfl)) ?_; (with_reducible refine (stratagemref06_bytes.calls k a0 t115 t116 _ A4.out).mono ?_); rintro e w10 ⟨v117, rfl, ho0, hb⟩; refine ⟨_, rfl, ?_⟩; have n0_ := Aside0.mk (Kd.R_lower ho0 (below_size (by repeat (first | (with_reducible first | exact HB.out | apply below_alloc | apply pw_below_drewN | apply below_drew1) | exact HB.out)))); have n1_ := Aside0.mk (below_step (by repeat (first | (with_reducible first | exact HB.out | apply below_alloc | apply pw_below_drewN | apply below_drew1) | exact HB.out)) hb); clear HB; have HO118 := n0_; have HB := n1_; clear n0_ n1_; (try clear hb); (try clear hb2); (try clear hk); (try clear hi); (try clear ho0)) | ((with_reducible refine gate_dst (N := 12) rfl ?_); refine Kd.R_lit (Kd.int .u8) _ 5 ?hg (N := 12) ?hd (xs := ([0, 0, 64, 0, 128, 0, 0, 0, 192] : List Int)) (inner := [.int .u8 0, .int .u8 0, .int .u8 64, .int .u8 0, .int .u8 128, .int .u8 0, .int .u8 0, .int .u8 0, .int .u8 192]) (ok := fun _ => True) (okp := fun _ => True) ?hr ?hp (fun _ hk => hk) trivial (Below.refl _ _) (Nat.le_refl _) (by simp) ?_; (case hd => rfl); (case hg => rfl); (case hr => first | (go_simp; done) | (go_simp; rfl)); (case hp => exact (Reps.one (show Kd.M (Kd.int .u8) _ _ _ 0 [.int .u8 0] from rfl) (Reps.one (show Kd.M (Kd.int .u8) _ _ _ 0 [.int .u8 0] from rfl) (Reps.one (show Kd.M (Kd.int .u8) _ _ _ 64 [.int .u8 64] from rfl) (Reps.one (show Kd.M (Kd.int .u8) _ _ _ 0 [.int .u8 0] from rfl) (Reps.one (show Kd.M (Kd.int .u8) _ _ _ 128 [.int .u8 128] from rfl) (Reps.one (show Kd.M (Kd.int .u8) _ _ _ 0 [.int .u8 0] from rfl) (Reps.one (show Kd.M (Kd.int .u8) _ _ _ 0 [.int .u8 0] from rfl) (Reps.one (show Kd.M (Kd.int .u8) _ _ _ 0 [.int .u8 0] from rfl) (Reps.one (show Kd.M (Kd.int .u8) _ _ _ 192 [.int .u8 192] from rfl) (Reps.none _ _))))))))))); intro v120 w11 ho12 hb hg_ hnew_; clear hg_ hnew_; (first | rw [← Ny119.out] at ho12 | (simp only [Int.reduceToNat] at ho12; rw [← Ny119.out] at ho12)); have n0_ := Aside0.mk (Kd.R_elder' (by (with_reducible repeat (first | apply Kd.R_alloc | apply Kd.R_drewN | apply Kd.R_drew)); exact HO118.out) (Kd.R_base ho12) hb); have n1_ := Aside0.mk (Kd.R_lower (Kd.R_new' ho12 (Kd.R_lt (by (with_reducible repeat (first | apply Kd.R_alloc | apply Kd.R_drewN | apply Kd.R_drew)); exact HO118.out))) (below_size (by repeat (first | (with_reducible first | exact HB.out | apply below_alloc | apply pw_below_drewN | apply below_drew1) | exact HB.out)))); have n2_ := Aside0.mk (below_step (by repeat (first | (with_reducible first | exact HB.out | apply below_alloc | apply pw_below_drewN | apply below_drew1) | exact HB.out)) hb); clear HO118; clear HB; have HO118 := n0_; have HO121 := n1_; have HB := n2_; clear n0_ n1_ n2_; clear hb ho12))
          have n0_ := Aside0.mk (Kd.R_drew HO118.out)
          have n1_ := Aside0.mk (Kd.R_drew HO121.out)
          have n2_ := Aside0.mk (below_drew1 HB.out)
          clear HO118
          clear HO121
          clear HB
          have HO118 := n0_
          have HO121 := n1_
          have HB := n2_
          clear n0_ n1_ n2_
          obtain ⟨Ao14, co14, eo14⟩ := Kd.R_slice HO118.out
          (first | subst eo14 | (injection eo14 with f1_ f2_ f3_; have f4_ := f1_.symm; have f5_ := f3_.symm; clear f1_ f2_ f3_; subst f4_; subst f5_))
          have p122 : 0 ≤ (0 : Int) := (by omega)
          have q122 : 0 < (t116.length : Int) := of_decide_eq_true (by first | (with_reducible assumption) | assumption)
          obtain ⟨ad122, e122, hx122_0⟩ := Kd.at_int (Kd.R_reads' HO118.out).2.2 0 p122 q122
          cases e122
          have qi122 : (0 < t116.length) = True := eq_true (by omega)
          (try rw [show ((0 : Int)).toNat = 0 from rfl] at hx122_0)
          (try rw [Addr.add_zero'] at hx122_0)
          replace p122 := eq_true p122
          replace q122 := eq_true q122
          have p124 : 0 ≤ (t123 : Int) := of_decide_eq_true (by first | (with_reducible assumption) | assumption)
          have q124 : t123 < (y119.length : Int) := of_decide_eq_true (by first | (with_reducible assumption) | assumption)
          obtain ⟨Ax124, cx124, ex124⟩ := Kd.R_slice HO121.out
          subst ex124
          obtain ⟨ad124, e124, hx124_0⟩ := Kd.at_int (Kd.R_reads' HO121.out).2.2 t123 p124 q124
          cases e124
          replace p124 := eq_true p124
          replace q124 := eq_true q124
          refine start_ (n := 12) (S := fun w' => w'.cell? ad122 = some (.int .u8 (rd t116 0)) ∧ w'.cell? (ad124.add (t123).toNat) = some (.int .u8 (rd y119 t123))) (ds := [11]) #[false, false, false, false, false, false, false, false, false, false, false, false] (by kernel_rfl) rfl rfl ⟨hx122_0, hx124_0⟩ (fun hHeld => ?_); refine with_tabW stratagemref06_Put.tab5 stratagemref06_Put.bits5 (fun HT_ HW_ => ?_)
          generalize w11.drew = w13 at HO118 HO121 HB hx122_0 hx124_0 hHeld ⊢
          refine pure_ (i := 0) (N := some 13) (v := ?_) (a' := ?_) #[true, false, false, false, false, false, false, false, false, false, false, false] rfl rfl (any_of HT_.out (by kernel_rfl)) (fun _ _ _ h => h) (Or.inl ⟨by rfl, ?_⟩) ?_ ?_
          rotate_left
          · intro w'
            go_simp
            with_reducible rfl
          rotate_left
          · simp only [Act.put, List.setIfInBounds_toArray, List.set_cons_zero, List.set_cons_succ, i64_w, i32_w]
            rfl
          refine pure_ (i := 1) (N := some 14) (v := ?_) (a' := ?_) #[true, true, false, false, false, false, false, false, false, false, false, false] rfl rfl (any_of HT_.out (by kernel_rfl)) (fun _ _ _ h => h) (Or.inl ⟨by rfl, ?_⟩) ?_ ?_
          rotate_left
          · intro w'
            go_simp
            with_reducible rfl
          rotate_left
          · simp only [Act.put, List.setIfInBounds_toArray, List.set_cons_zero, List.set_cons_succ, i64_w, i32_w]
            rfl
          refine pure_ (i := 2) (N := some 15) (v := ?_) (a' := ?_) #[true, true, true, false, false, false, false, false, false, false, false, false] rfl rfl (any_of HT_.out (by kernel_rfl)) (fun _ _ _ h => h) (Or.inl ⟨by rfl, ?_⟩) ?_ ?_
          rotate_left
          · intro w'
            go_simp
            with_reducible rfl
          rotate_left
          · simp only [Act.put, List.setIfInBounds_toArray, List.set_cons_zero, List.set_cons_succ, i64_w, i32_w]
            rfl
          refine pure_ (i := 4) (N := some 17) (v := ?_) (a' := ?_) #[true, true, true, false, true, false, false, false, false, false, false, false] rfl rfl (any_of HT_.out (by kernel_rfl)) (fun _ _ _ h => h) (Or.inl ⟨by rfl, ?_⟩) ?_ ?_
          rotate_left
          · intro w'
            go_simp
            with_reducible rfl
          rotate_left
          · simp only [Act.put, List.setIfInBounds_toArray, List.set_cons_zero, List.set_cons_succ, i64_w, i32_w]
            rfl
          refine pure_ (i := 5) (N := some 18) (v := ?_) (a' := ?_) #[true, true, true, false, true, true, false, false, false, false, false, false] rfl rfl (any_of HT_.out (by kernel_rfl)) (fun _ _ _ h => h) (Or.inl ⟨by rfl, ?_⟩) ?_ ?_
          rotate_left
          · intro w'
            go_simp
            with_reducible rfl
          rotate_left
          · simp only [Act.put, List.setIfInBounds_toArray, List.set_cons_zero, List.set_cons_succ, i64_w, i32_w]
            rfl
          refine take_ (i := 3) (N := some 16) (v := ?_) (a' := ?_) #[true, true, true, true, true, true, false, false, false, false, false, false] rfl rfl (take_ofW HT_.out HW_.out (by kernel_rfl)) (fun _ _ _ h => h) (Or.inl ⟨by rfl, ?_⟩) hHeld ?_ ?_
          rotate_left
          · rintro w' ⟨s0, s1⟩
            go_simp
            with_reducible rfl
          rotate_left
          · simp only [Act.put, List.setIfInBounds_toArray, List.set_cons_zero, List.set_cons_succ, i64_w, i32_w]
            rfl
          refine one_ (i := 6) (N := some 19) #[true, true, true, true, true, true, true, false, false, false, false, false] rfl rfl (one_of HT_.out (by kernel_rfl)) (by decide) (fun K hK => ?_)
          refine goes_ Try.func35 (by kernel_rfl) rfl #[.int .u64 a0] (by rfl) rfl rfl (by (try simp only [List.map_toArray, List.map_cons, List.map_nil]); first | done | rfl | (simp only [List.length_drop, List.length_take]; rfl)) ?_
          with_reducible refine (stratagemref06_size.calls a0 t123 _ A6.out).mono ?_
          rintro e w' ⟨rfl, ⟨nd, rfl⟩⟩
          refine ⟨_, rfl, ?_⟩
          obtain ⟨Ao15, co15, eo15⟩ := Kd.R_slice HO121.out
          (first | subst eo15 | (injection eo15 with f1_ f2_ f3_; have f4_ := f1_.symm; have f5_ := f3_.symm; clear f1_ f2_ f3_; subst f4_; subst f5_))
          have p9 : 0 ≤ (0 : Int) := (by omega)
          have q9 : (0 : Int) < ((t116.length : Int) : Int) := of_decide_eq_true (by first | (with_reducible assumption) | assumption)
          have qi9 : (0 < t116.length) = True := eq_true (by omega)
          obtain ⟨go9, co9, eo9, gb9, gl9, cl9, HG9⟩ := Kd.R_form HO118.out (by omega)
          (first | cases eo9 | (injection eo9 with ea_ en_ ec_; (first | subst ea_ | (injection ea_ with ea_; subst ea_)); subst ec_; clear en_))
          have GB9 := Aside0.mk gb9
          have GG9 := Aside0.mk HG9
          clear gb9 gl9 HG9
          (first | simp only [add_plain] at hx122_0 | skip)
          obtain ⟨hx9_0, hf9_0⟩ := Kd.R_celln 0 HO118.out (0 : Int) p9 q9
          (try rw [show ((0 : Int)).toNat = 0 from rfl] at hx9_0)
          (try simp only [Nat.reduceMul, Nat.zero_mul, Nat.zero_add, Nat.reduceAdd] at hx9_0)
          (try rw [show ((0 : Int)).toNat = 0 from rfl] at hf9_0)
          (try simp only [Nat.reduceMul, Nat.zero_mul, Nat.zero_add, Nat.reduceAdd] at hf9_0)
          replace p9 := eq_true p9
          replace q9 := eq_true q9
          have HP16 := Kd.R_putn HO118.out (0 : Int) (((rd t116 0) + (rd y119 t123)) % 256)
          rw [← Ny125.out] at HP16
          have HQ16 := Aside0.mk HP16
          clear HP16
          refine hK.out _ _ ⟨hHeld.1, hHeld.2⟩ (fun hHeld => ?_)
          clear hK K
          refine norm_ (a' := ?_) ?_ ?_
          rotate_left
          · show Act.put _ (some 19) _ = _
            simp only [Act.put, List.setIfInBounds_toArray, List.set_cons_zero, List.set_cons_succ, i64_w, i32_w]
            rfl
          refine pure_ (i := 7) (N := some 20) (v := ?_) (a' := ?_) #[true, true, true, true, true, true, true, true, false, false, false, false] rfl rfl (any_of HT_.out (by kernel_rfl)) (fun _ _ _ h => h) (Or.inl ⟨by rfl, ?_⟩) ?_ ?_
          rotate_left
          · intro w'
            go_simp
            with_reducible rfl
          rotate_left
          · simp only [Act.put, List.setIfInBounds_toArray, List.set_cons_zero, List.set_cons_succ, i64_w, i32_w]
            rfl
          refine take_ (i := 8) (N := some 21) (v := ?_) (a' := ?_) #[true, true, true, true, true, true, true, true, true, false, false, false] rfl rfl (take_ofW HT_.out HW_.out (by kernel_rfl)) (fun _ _ _ h => h) (Or.inl ⟨by rfl, ?_⟩) hHeld ?_ ?_
          rotate_left
          · rintro w' ⟨s0, s1⟩
            go_simp
            with_reducible rfl
          rotate_left
          · simp only [Act.put, List.setIfInBounds_toArray, List.set_cons_zero, List.set_cons_succ, i64_w, i32_w]
            rfl
          refine pure_ (i := 9) (N := some 22) (v := ?_) (a' := ?_) #[true, true, true, true, true, true, true, true, true, true, false, false] rfl rfl (any_of HT_.out (by kernel_rfl)) (fun _ _ _ h => h) (Or.inl ⟨by rfl, ?_⟩) ?_ ?_
          rotate_left
          · intro w'
            go_simp
            with_reducible rfl
          rotate_left
          · simp only [Act.put, List.setIfInBounds_toArray, List.set_cons_zero, List.set_cons_succ, i64_w, i32_w]
            rfl
          refine pure_ (i := 10) (N := some 23) (v := ?_) (a' := ?_) #[true, true, true, true, true, true, true, true, true, true, true, false] rfl rfl (any_of HT_.out (by kernel_rfl)) (fun _ _ _ h => h) (Or.inl ⟨by rfl, ?_⟩) ?_ ?_
          rotate_left
          · intro w'
            go_simp
            with_reducible rfl
          rotate_left
          · simp only [Act.put, List.setIfInBounds_toArray, List.set_cons_zero, List.set_cons_succ, i64_w, i32_w]
            rfl
          refine last_ (i := 11) (N := none) #[true, true, true, true, true, true, true, true, true, true, true, true] rfl rfl (one_of HT_.out (by kernel_rfl)) (by decide) (fun K hK => ?_)
          refine skip_ (w1 := ?_) (by rfl) rfl ?_ ?_
          rotate_left
          · go_simp
            rfl
          refine hK.out _ _ ?_
          clear hK K
          refine done_ (done_of HT_.out (by kernel_rfl)) ?_
          try go_wp2
          go_ret2
          exact ⟨_, by first | rfl | (simp [errW_none, errW_some] <;> rfl) | (simp [*, errW_none, errW_some] <;> rfl), by (with_reducible repeat (first | apply Kd.R_alloc | apply Kd.R_drewN | apply Kd.R_drew)); exact Kd.R_mono HQ16.out (fun _ hk => trivial), by repeat (first | (with_reducible first | exact HB.out | apply below_alloc | apply pw_below_drewN | apply below_drew1 | refine below_set ?_ GB9.out) | exact HB.out)⟩
        · rw [if_neg c8] at H
          exact absurd H (by simp)
      · rw [if_neg c7] at H
        exact absurd H (by simp)
    · rw [if_neg c5] at H
      exact absurd H (by simp)

end Go.Proofs.Ytblfcmjcdclijaa.Q
