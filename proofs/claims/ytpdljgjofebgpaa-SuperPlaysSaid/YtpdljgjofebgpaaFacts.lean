/-
  Closed facts of the whole program that each row's step asks, each reckoned once by itself.
-/
import Derived.Test.YtpdljgjofebgpaaRows
import Derived.JoinedOf
import Derived.KernelRfl
namespace Go.Proofs.Ytpdljgjofebgpaa
theorem and2 {a b : Bool} (h : a = true) (k : b = true) : (a && b) = true := by rw [h, k]; rfl
theorem factOut : laidOutB Try.prog = true := by kernel_rfl
theorem factRowed : mapsRowed Try.prog = true := by kernel_rfl
theorem factHeard : Try.prog.stopsHeard = true := by kernel_rfl
theorem factMay : Try.prog.mayEnter = true := by kernel_rfl
theorem factLift0 : (false == Try.prog.liftsFinal) = true := by kernel_rfl
theorem factMake0 : (Try.prog.make == some Make.cut) = true := by kernel_rfl
theorem factLift (b : Bool) (h : b = false) : (b == Try.prog.liftsFinal) = true := by rw [h]; exact factLift0
theorem factMake (m : Make) (h : m = Make.cut) : (Try.prog.make == some m) = true := by rw [h]; exact factMake0
end Go.Proofs.Ytpdljgjofebgpaa
