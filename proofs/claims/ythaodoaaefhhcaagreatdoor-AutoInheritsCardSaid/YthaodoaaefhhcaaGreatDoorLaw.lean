/- PROVED: for every choice of its three truth values, anvil's law AutoInherits returns true, and what its arguments read is as before. CONDITIONS: the package variables that the row lists start as the program's text lays them (the card ties them to the pruned copy); nothing else. The eight inputs are reckoned by the kernel on an abstract machine that is proved sound for every order of evaluation that the language leaves open. -/
import Derived.Test.YthaodoaaefhhcaaGreatDoorRow
import Derived.Test.YthaodoaaefhhcaaGreatDoorRun0
import Derived.Test.YthaodoaaefhhcaaGreatDoorRun1
import Derived.Test.YthaodoaaefhhcaaGreatDoorRun2
import Derived.Test.YthaodoaaefhhcaaGreatDoorRun3
import Derived.Test.YthaodoaaefhhcaaGreatDoorRun4
import Derived.Test.YthaodoaaefhhcaaGreatDoorRun5
import Derived.Test.YthaodoaaefhhcaaGreatDoorRun6
import Derived.Test.YthaodoaaefhhcaaGreatDoorRun7
namespace Go.Proofs.YthaodoaaefhhcaaGreatDoor
open Go Go.Proofs Go.Aw

/-- The law, from any world that has room for the package variables. -/
theorem walks : Walks := by
  intro a b c w hw
  cases a <;> cases b <;> cases c
  · exact run_of (args := #[.bool false, .bool false, .bool false]) (by decide) run0 hw
  · exact run_of (args := #[.bool false, .bool false, .bool true]) (by decide) run1 hw
  · exact run_of (args := #[.bool false, .bool true, .bool false]) (by decide) run2 hw
  · exact run_of (args := #[.bool false, .bool true, .bool true]) (by decide) run3 hw
  · exact run_of (args := #[.bool true, .bool false, .bool false]) (by decide) run4 hw
  · exact run_of (args := #[.bool true, .bool false, .bool true]) (by decide) run5 hw
  · exact run_of (args := #[.bool true, .bool true, .bool false]) (by decide) run6 hw
  · exact run_of (args := #[.bool true, .bool true, .bool true]) (by decide) run7 hw

/-- The statement. -/
theorem autoInherits_holds : Rows.AutoInheritsCardSaid := card_of walks
#print axioms autoInherits_holds
end Go.Proofs.YthaodoaaefhhcaaGreatDoor
