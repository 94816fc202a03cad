/- The pure statement of OctetBack: numbers come back from their bytes, whatever stands behind; cut off none does; the greater one of two has no fewer bytes, and unlike ones have unlike bytes. -/
import Derived.Test.YtblfcmjcdclijaaQx23
import Derived.Test.YtblfcmjcdclijaaPOct
namespace Go.Proofs.Ytblfcmjcdclijaa.Pure
open Go.RowKit Go.Proofs.Ytblfcmjcdclijaa.Q Go.Proofs.YtblfcmjcdclijaaW.PrintWords Go.Proofs.YtblfcmjcdclijaaW.PrintLast
theorem OctetBack : stratagemlaw06_OctetBack.Pure := by
  intro n m l hn hm _ hl hb
  obtain ⟨k, hk⟩ : ∃ k, k = 1000 := ⟨_, rfl⟩
  refine ⟨k + 1, ?_⟩
  obtain ⟨n0, n1⟩ := u64_wf hn
  obtain ⟨m0, m1⟩ := u64_wf hm
  have hb := bytes_of hb
  unfold stratagemlaw06_OctetBack.f stratagemlaw06_awake.f
  simp only [Option.bind_some]
  rw [if_pos trivial]
  by_cases h : (l.length : Int) > 400
  · rw [if_pos h]
  rw [if_neg h, put_some n n0, put_some m m0]
  simp only [Option.bind_some]
  by_cases hn2 : n > 4611686018427387903
  · have e1 : ((((5 : Int) == 0) != decide (n ≤ 4611686018427387903)) = true) = False := by
      rw [decide_eq_false (by omega)]; simp
    rw [if_pos hn2, if_pos hn2, if_neg (by rw [e1]; exact id)]
    simp only [stratagemlaw06_OctetBack.j0]
    rw [if_pos (by decide), if_pos (by simp), if_pos hn2]
    rfl
  · have e1 : ((((0 : Int) == 0) != decide (n ≤ 4611686018427387903)) = true) = False := by
      rw [decide_eq_true (by omega)]; simp
    have hlen := putB_len n
    obtain ⟨p1, p2⟩ := pow_kind n
    have hw : wrap64 (((2 ^ kindN n : Nat) : Int) - 1) = ((2 ^ kindN n - 1 : Nat) : Int) := by rw [w64 (by omega) (by omega)]; omega
    rw [if_neg hn2, if_neg hn2, if_neg (by rw [e1]; exact id)]
    simp only [stratagemlaw06_OctetBack.j0]
    rw [if_neg (by decide), if_neg (by rw [hlen]; omega)]
    simp only [Option.bind_some, List.nil_append]
    rw [if_pos (by rw [hlen]; simp only [List.length_nil]; omega), if_pos (by rw [hlen]; omega), take_put n l n0 (by omega) hb, hlen, hw]
    simp only [Option.bind_some, Int.toNat_natCast]
    rw [if_pos (by omega), if_pos (by omega), take_cut n _ n0 (by omega) (by omega)]
    simp only [Option.bind_some, if_true]
    by_cases hm2 : m > 4611686018427387903
    · rw [if_pos hm2, if_pos hm2, if_neg (by omega)]
    · rw [if_neg hm2, if_neg hm2, if_pos rfl, same_f _ _ k (by rw [hlen]; omega) (by rw [hlen]; omega)]
      simp only [Option.bind_some]
      have hsame : (decide (putB n = putB m) == (n == m)) = true := by
        by_cases e : n = m
        · subst e; simp
        · have e2 : ¬ putB n = putB m := fun he => e (putB_inj n0 (by omega) m0 (by omega) he)
          rw [decide_eq_false e2]
          simp [e]
      rw [if_pos hsame]
      by_cases hgt : n > m
      · rw [if_pos hgt]
      · rw [if_neg hgt, putB_len m]
        have hmono := kind_mono (show n ≤ m by omega)
        have := Nat.pow_le_pow_right (n := 2) (by omega) hmono
        rw [decide_eq_true (by omega)]

end Go.Proofs.Ytblfcmjcdclijaa.Pure
