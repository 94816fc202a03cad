/- The pure statement of OctetTells: the bytes of any number, what any bytes begin with, marks and eight bytes are as the document says. -/
import Derived.Test.YtblfcmjcdclijaaQx17
import Derived.Test.YtblfcmjcdclijaaPOct
namespace Go.Proofs.Ytblfcmjcdclijaa.Pure
open Go.RowKit Go.Proofs.Ytblfcmjcdclijaa.Q Go.Proofs.YtblfcmjcdclijaaW.PrintWords Go.Proofs.YtblfcmjcdclijaaW.PrintLast
theorem OctetTells : stratagemlaw06_OctetTells.Pure := by
  intro n l hn hm hl hb
  obtain ⟨k, hk⟩ : ∃ k, k = 1000 := ⟨_, rfl⟩
  refine ⟨k, ?_⟩
  obtain ⟨n0, n1⟩ := u64_wf hn
  have hb := bytes_of hb
  unfold stratagemlaw06_OctetTells.f stratagemlaw06_awake.f
  simp only [Option.bind_some]
  rw [if_pos trivial]
  by_cases h : (l.length : Int) > 400
  · rw [if_pos h]
  rw [if_neg h, put_ref n k n0 (by omega), put_some n n0]
  simp only [Option.bind_some]
  obtain ⟨a, b, c, ht⟩ := take_some hb
  rw [take_ref l k hb (by omega) (by omega), ht]
  simp only [Option.bind_some]
  have hx : (if n > 4611686018427387903 then ([] : List Int) else putB n).length ≤ 8 := by
    split
    · simp
    · rw [putB_len]; exact (pow_kind n).2
  rw [same_refl k _ (by omega) (by omega)]
  simp only [Option.bind_some, if_true]
  rw [mark_f l k hb (by omega) (by omega), markref_f l k hb (by omega) (by omega)]
  simp only [Option.bind_some, if_true]
  have he : octet_Eight.f n = some (be8 n 8) := by unfold octet_Eight.f; rw [if_pos n0, if_pos (by omega)]
  have he2 : stratagemref06_Eight.f k n = some (be8 n 8) := by
    unfold stratagemref06_Eight.f
    have := bytes_f n 8 k n0 n1 (by omega) (by omega)
    rw [show ((8 : Nat) : Int) = 8 from rfl] at this
    rw [this, be8_be]; rfl
  rw [he, he2]
  simp only [Option.bind_some]
  rw [same_refl k _ (by rw [be8_len]; omega) (by rw [be8_len]; omega)]
  rfl

end Go.Proofs.Ytblfcmjcdclijaa.Pure
