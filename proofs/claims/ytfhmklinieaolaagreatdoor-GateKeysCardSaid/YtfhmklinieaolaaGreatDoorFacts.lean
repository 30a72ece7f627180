/-
  The facts about the whole program that each row and card of this seat asks, each by the kernel.
-/
import Derived.Test.YtfhmklinieaolaaGreatDoorCards
import Derived.JoinedOf
import Derived.KernelRfl
namespace Go.Proofs.YtfhmklinieaolaaGreatDoor.Facts
open Go
theorem own : ownKnob Tryz.prog.godebug = none := by kernel_rfl
theorem laidOut : laidOutB Tryz.prog = true := by kernel_rfl
theorem mapsRowed : mapsRowed Tryz.prog = true := by kernel_rfl
theorem stops : (Tryz.prog.stops == []) = true := by kernel_rfl
theorem stopKnobs : (Tryz.prog.stopKnobs == []) = true := by kernel_rfl
theorem stopsHeard : Tryz.prog.stopsHeard = true := by kernel_rfl
theorem mayEnter : Tryz.prog.mayEnter = true := by kernel_rfl
theorem mainIs : Tryz.prog.mainIs = some (true, "e6107a9794f25d4f97f67e088336d4313cfdef1e0eecaa72cc2c8d334b664a9c".toList) := by kernel_rfl
theorem looks : true = Tryz.prog.looks [] := by kernel_rfl
end Go.Proofs.YtfhmklinieaolaaGreatDoor.Facts
