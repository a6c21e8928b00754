/- Closed facts of the program that every row of this seat wants, each one apart. -/
import Derived.Test.YtppkmhejeklegaaDoorRow
import Derived.JoinedOf
import Derived.Test.YtppkmhejeklegaaDoorCards
namespace Go.Proofs.YtppkmhejeklegaaDoor
open Go.RowKit

theorem f_mayEnter : Tryd.prog.mayEnter = true := by kernel_rfl
theorem f_lifts : (Rows.orderGrowsRow.lifted == Tryd.prog.liftsFinal) = true := by kernel_rfl
theorem f_make : (Tryd.prog.make == some Rows.orderGrowsRow.make) = true := by kernel_rfl
theorem f_mapsRowed : mapsRowed Tryd.prog = true := by kernel_rfl
theorem f_stopsHeard : Tryd.prog.stopsHeard = true := by kernel_rfl
theorem f_plain : (Rows.orderGrowsRow.plainKeys == Tryd.prog.plainKeys) = true := by kernel_rfl
theorem f_looks : Rows.orderGrowsCard.stood.looks = Tryd.prog.looks [] := by kernel_rfl
theorem f_main : Tryd.prog.mainIs = some (Rows.orderGrowsCard.stood.harness.1, Rows.orderGrowsCard.stood.harness.2.toList) := by kernel_rfl
theorem lifts_of (c : OpenClaim) (h : c.lifted = Rows.orderGrowsRow.lifted) : (c.lifted == Tryd.prog.liftsFinal) = true := by rw [h]; exact f_lifts
theorem make_of (c : OpenClaim) (h : c.make = Rows.orderGrowsRow.make) : (Tryd.prog.make == some c.make) = true := by rw [h]; exact f_make
theorem plain_of (c : OpenClaim) (h : c.plainKeys = Rows.orderGrowsRow.plainKeys) : (c.plainKeys == Tryd.prog.plainKeys) = true := by rw [h]; exact f_plain
end Go.Proofs.YtppkmhejeklegaaDoor
