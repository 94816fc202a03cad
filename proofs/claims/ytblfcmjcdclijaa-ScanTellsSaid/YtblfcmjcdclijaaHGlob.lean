/- What the world holds of the library's own variable: some number. -/
import Derived.Test.YtblfcmjcdclijaaProg
import Derived.Test.YtblfcmjcdclijaaWMore
import Derived.HandedShaped
import Derived.Shelf.Vars
import Derived.KernelRfl
namespace Go.Proofs.Ytblfcmjcdclijaa.QS
open Go.RowKit Go.Proofs.YtblfcmjcdclijaaW.PrintWords Go.Proofs.YtblfcmjcdclijaaW.PrintLast Go.Proofs.YtblfcmjcdclijaaW.PrintMore
/-- The library's variable internal/bytealg.MaxLen holds some number. -/
def GOK (w : World) : Prop := ∃ m, w.cell? ⟨0, 0, none⟩ = some (.int .i64 m)
theorem GOK.below {w W : World} (h : GOK w) (hb : Below w.heap.size w W) : GOK W := by
  obtain ⟨m, h⟩ := h
  exact ⟨m, pw_cell_below hb h⟩
theorem GOK.drewN {w : World} {n : Nat} (h : GOK w) : GOK (w.drewN n) := h
theorem GOK.drew {w : World} (h : GOK w) : GOK w.drew := h
theorem GOK.alloc {w : World} {o : Obj} (h : GOK w) : GOK (w.alloc o) := h.below (below_alloc (Below.refl _ _) o)
theorem GOK.of_shape {w : World} (h : w.ShapedOpen Try.prog) : GOK w :=
  Go.Proofs.cell_of_shapedOpen_int (zero := #[.int .i64 0]) (t := 3) h (of_decide_eq_true (by kernel_rfl)) (by kernel_rfl) rfl (by kernel_rfl) (by kernel_rfl) Try.underlying3
end Go.Proofs.Ytblfcmjcdclijaa.QS
