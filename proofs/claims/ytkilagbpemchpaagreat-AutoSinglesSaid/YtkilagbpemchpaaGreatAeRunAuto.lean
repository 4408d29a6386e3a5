import Derived.Test.YtkilagbpemchpaaGreatAeTabAuto
namespace Go.Proofs.YtkilagbpemchpaaGreat.Ae
open Go Go.Ae Go.RowKit Go.Proofs
theorem known (w : World) : Calls Tryz.prog 11 #[] w fun e w1 => e = .returned (.bool true) ∧ Below w.heap.size w w1 :=
  law_true T_ok mixed (noPrim_sound _) F_ok (fuel := 100000) (d := 100) (ora := []) (args := []) (args' := []) (asm := []) (isPrim := fun _ => false) (by kernel_rfl) (fun _ h => by cases h) rfl w
end Go.Proofs.YtkilagbpemchpaaGreat.Ae
