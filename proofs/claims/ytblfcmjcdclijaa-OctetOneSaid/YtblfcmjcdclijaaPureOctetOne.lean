/- The pure statement of OctetOne: each row of bytes is of one number, or of none; marks go on from byte to byte, and unlike last bytes make unlike marks. -/
import Derived.Test.YtblfcmjcdclijaaQx24
import Derived.Test.YtblfcmjcdclijaaPOct
namespace Go.Proofs.Ytblfcmjcdclijaa.Pure
open Go.RowKit Go.Proofs.Ytblfcmjcdclijaa.Q Go.Proofs.YtblfcmjcdclijaaW.PrintWords Go.Proofs.YtblfcmjcdclijaaW.PrintLast
/-- What the statement says of marks. -/
def marksTell (k : Nat) (x0 : List Int) (x1 x2 : Int) : Option Bool := (some (([] : List Int) : List Int)).bind fun y208 => (if y208.length + x0.length < 140737488355328 then ((some (y208 ++ x0 : List Int)).bind fun y211 => (if y211.length < 140737488355328 then ((octet_Mark.f k (y211 ++ [x1])).bind fun t217 => ((some (([] : List Int) : List Int)).bind fun y218 => (if y218.length + x0.length < 140737488355328 then ((some (y218 ++ x0 : List Int)).bind fun y221 => (if y221.length < 140737488355328 then ((octet_Mark.f k (y221 ++ [x2])).bind fun t227 => (if ((t217 == t227) == (x1 == x2)) = true then ((octet_Mark.f k x0).bind fun t228 => (some (t217 == (IntKind.u64.wrap ((Go.bits .xor .u64 t228 (IntKind.u64.wrap (x1))) * 1099511628211))))) else (some false))) else (none))) else (none)))) else (none))) else (none))
theorem marks_true (k : Nat) (l : List Int) (c d : Nat) (hb : l.all byteB = true) (hc : c < 256) (hd : d < 256) (hl : l.length ≤ 400) (hk : 500 < k) : marksTell k l c d = some true := by
  unfold marksTell
  simp only [Option.bind_some, List.nil_append, List.length_nil, Nat.zero_add]
  have hb1 : ∀ x : Nat, x < 256 → (l ++ [(x : Int)]).all byteB = true := by
    intro x hx
    rw [List.all_append, hb]
    simp [byteB]; omega
  rw [if_pos (by omega), if_pos (by omega), mark_f (l ++ [(c : Int)]) k (hb1 c hc) (by simp; omega) (by simp; omega), mark_f (l ++ [(d : Int)]) k (hb1 d hd) (by simp; omega) (by simp; omega), mark_f l k hb (by omega) (by omega)]
  simp only [Option.bind_some, markB_snoc]
  have hM := mark_lt l 14695981039346656037 (by omega)
  obtain ⟨M, hMe⟩ : ∃ M, M = markB l 14695981039346656037 := ⟨_, rfl⟩
  rw [← hMe] at hM ⊢
  have e1 : (((mixB M c : Nat) : Int) == ((mixB M d : Nat) : Int)) = ((c : Int) == (d : Int)) := by
    by_cases e : c = d
    · subst e; simp
    · have e2 : mixB M c ≠ mixB M d := fun h => e (mixB_inj M c d hM hc hd h)
      rw [beq_eq_false_iff_ne.2 (by omega), beq_eq_false_iff_ne.2 (by omega)]
  rw [if_pos (by omega), if_pos (by omega), if_pos (by rw [e1]; simp), u64 (n := (c : Int)) (by omega) (by omega), xor_u64 M c hM (by omega)]
  have e3 : IntKind.u64.wrap (((M ^^^ c : Nat) : Int) * 1099511628211) = ((mixB M c : Nat) : Int) := by
    rw [IntKind.wrap_u64]; unfold mixB; omega
  rw [e3, beq_self_eq_true]
theorem OctetOne : stratagemlaw06_OctetOne.Pure := by
  intro l c d _ hl hb hc hd
  obtain ⟨k, hk⟩ : ∃ k, k = 1000 := ⟨_, rfl⟩
  refine ⟨k + 1 + 1, ?_⟩
  obtain ⟨c0, c1⟩ := byte_wf hc
  obtain ⟨d0, d1⟩ := byte_wf hd
  obtain ⟨c, rfl⟩ := Int.eq_ofNat_of_zero_le c0
  obtain ⟨d, rfl⟩ := Int.eq_ofNat_of_zero_le d0
  have hb := bytes_of hb
  unfold stratagemlaw06_OctetOne.f stratagemlaw06_awake.f
  simp only [Option.bind_some]
  rw [if_pos trivial]
  by_cases h : (l.length : Int) > 400
  · rw [if_pos h]
  rw [if_neg h]
  obtain ⟨n, j, e, ht⟩ := take_some hb
  rw [ht]
  simp only [Option.bind_some]
  have hmk := fun q hq => marks_true q l c d hb (by omega) (by omega) (by omega) hq
  by_cases he : e = 0
  · subst he
    obtain ⟨n0, n1, j0, j1, hput⟩ := take_le_top l n j hb ht
    rw [if_pos rfl]
    simp only [stratagemlaw06_OctetOne.j0]
    rw [if_neg (by decide), if_pos trivial, put_some n n0, if_neg (by omega), if_neg (by omega)]
    simp only [Option.bind_some]
    have hjl : (l.take j.toNat).length ≤ 400 := by rw [List.length_take]; omega
    rw [if_pos trivial, if_neg (by omega), if_neg (by omega), if_pos (by omega), if_pos (by omega), hput, same_refl (k + 1) _ (by omega) (by omega)]
    simp only [Option.bind_some, stratagemlaw06_OctetOne.j1]
    rw [if_neg (by decide)]
    exact hmk k (by omega)
  · obtain ⟨rfl, rfl⟩ := take_err l n j e hb ht he
    rw [if_neg he, if_pos rfl]
    simp only [stratagemlaw06_OctetOne.j0]
    rw [if_neg (by decide), if_neg he]
    exact hmk (k + 1) (by omega)

end Go.Proofs.Ytblfcmjcdclijaa.Pure
