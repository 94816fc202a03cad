/- The pure statement of OctetReads: what is read of any bytes, number by number, what is left, and what goes wrong first, are as the document says. -/
import Derived.Test.YtblfcmjcdclijaaQxR
import Derived.Test.YtblfcmjcdclijaaPOct
namespace Go.Proofs.Ytblfcmjcdclijaa.Pure
open Go.RowKit Go.Proofs.Ytblfcmjcdclijaa.Q Go.Proofs.YtblfcmjcdclijaaW.PrintWords Go.Proofs.YtblfcmjcdclijaaW.PrintLast
theorem OctetReads : stratagemlaw06_OctetReads.Pure := by
  intro l0 l1 _ _ hb _ _ _
  unfold stratagemlaw06_OctetReads.f
  rw [if_pos (bytes_of hb)]

end Go.Proofs.Ytblfcmjcdclijaa.Pure
