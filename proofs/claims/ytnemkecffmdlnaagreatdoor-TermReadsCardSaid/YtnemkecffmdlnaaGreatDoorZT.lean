/-
  The tie of the row TermReads: the tables that it lists are those of the program's text.
-/
import Derived.Test.YtnemkecffmdlnaaGreatDoorRows
import Derived.LaidByTextLater
import Derived.SevenTiedAt
import Derived.LaidOnce
namespace Go.Proofs.YtnemkecffmdlnaaGreatDoor.termReads
open Go
set_option maxRecDepth 100000
theorem rowTie : Rows.termReadsRow.laidByTextAt .later Tryz.pinned [.data, .data, .data, .data, .data] true :=
  OpenClaim.laidByTextAt_later rfl rfl (Program.laidByTextLater_by_one 111 8 85 (by kernel_rfl) (by kernel_rfl) (by kernel_rfl) (by kernel_rfl) (by kernel_rfl) (by kernel_rfl) (fun _ _ => by kernel_rfl)) (by kernel_rfl)
end Go.Proofs.YtnemkecffmdlnaaGreatDoor.termReads
