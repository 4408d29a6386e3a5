import Derived.Test.YtkilagbpemchpaaGreatAeSingle0Auto
import Derived.Test.YtkilagbpemchpaaGreatAeSingle1Auto
import Derived.Test.YtkilagbpemchpaaGreatAeSingle2Auto
namespace Go.Proofs.YtkilagbpemchpaaGreat.Ae
open Go Go.Ae Go.RowKit Go.Proofs

theorem autoSingles (s a k : Int) (w : World) : Calls Tryz.prog 7 #[.int .i64 s, .int .i64 a, .int .i64 k] w fun e w1 => e = .returned (.bool true) ∧ Below w.heap.size w w1 := by
  have h : s % 3 = 0 ∨ s % 3 = 1 ∨ s % 3 = 2 := by omega
  rcases h with h | h | h
  · exact single0 s a k w h
  · exact single1 s a k w h
  · exact single2 s a k w h

end Go.Proofs.YtkilagbpemchpaaGreat.Ae
