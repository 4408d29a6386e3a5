import Derived.Test.YtkilagbpemchpaaGreatAeLawAuto
namespace Go.Proofs.YtkilagbpemchpaaGreat.Ae
open Go Go.Ae Go.RowKit Go.Proofs

theorem autoBounds (n g : Int) (w : World) : Calls Tryz.prog 8 #[.int .i64 n, .int .i64 g] w fun e w1 => e = .returned (.bool true) ∧ Below w.heap.size w w1 := by
  have h : n % 5 = 0 ∨ n % 5 = 1 ∨ n % 5 = 2 ∨ n % 5 = 3 ∨ n % 5 = 4 := by omega
  have h' : g % 5 = 0 ∨ g % 5 = 1 ∨ g % 5 = 2 ∨ g % 5 = 3 ∨ g % 5 = 4 := by omega
  have go : ∀ k j, n % 5 = k → g % 5 = j → run 8 [n, g] [k, j] = some [(g, 5, j), (n, 5, k)] → Calls Tryz.prog 8 #[.int .i64 n, .int .i64 g] w fun e w1 => e = .returned (.bool true) ∧ Below w.heap.size w w1 := fun k j hk hj hr =>
    law hr (by simp [hk, hj]) w
  rcases h with h | h | h | h | h <;> rcases h' with h' | h' | h' | h' | h' <;> exact go _ _ h h' (by kernel_rfl)

end Go.Proofs.YtkilagbpemchpaaGreat.Ae
