import Derived.Test.YtkilagbpemchpaaGreatAeLawAuto
namespace Go.Proofs.YtkilagbpemchpaaGreat.Ae
open Go Go.Ae Go.RowKit Go.Proofs

theorem one000 (s a k : Int) : run 7 [s, a, k] [0, 0, 0] = some [(k, 5, 0), (a, 2, 0), (s, 3, 0)] := by kernel_rfl
theorem one001 (s a k : Int) : run 7 [s, a, k] [0, 0, 1] = some [(k, 5, 1), (a, 2, 0), (s, 3, 0)] := by kernel_rfl
theorem one002 (s a k : Int) : run 7 [s, a, k] [0, 0, 2] = some [(k, 5, 2), (a, 2, 0), (s, 3, 0)] := by kernel_rfl
theorem one003 (s a k : Int) : run 7 [s, a, k] [0, 0, 3] = some [(k, 5, 3), (a, 2, 0), (s, 3, 0)] := by kernel_rfl
theorem one004 (s a k : Int) : run 7 [s, a, k] [0, 0, 4] = some [(k, 5, 4), (a, 2, 0), (s, 3, 0)] := by kernel_rfl
theorem one010 (s a k : Int) : run 7 [s, a, k] [0, 1, 0] = some [(k, 5, 0), (a, 2, 1), (s, 3, 0)] := by kernel_rfl
theorem one011 (s a k : Int) : run 7 [s, a, k] [0, 1, 1] = some [(k, 5, 1), (a, 2, 1), (s, 3, 0)] := by kernel_rfl
theorem one012 (s a k : Int) : run 7 [s, a, k] [0, 1, 2] = some [(k, 5, 2), (a, 2, 1), (s, 3, 0)] := by kernel_rfl
theorem one013 (s a k : Int) : run 7 [s, a, k] [0, 1, 3] = some [(k, 5, 3), (a, 2, 1), (s, 3, 0)] := by kernel_rfl
theorem one014 (s a k : Int) : run 7 [s, a, k] [0, 1, 4] = some [(k, 5, 4), (a, 2, 1), (s, 3, 0)] := by kernel_rfl
theorem single0 (s a k : Int) (w : World) (h : s % 3 = 0) : Calls Tryz.prog 7 #[.int .i64 s, .int .i64 a, .int .i64 k] w fun e w1 => e = .returned (.bool true) ∧ Below w.heap.size w w1 := by
  have h5 : k % 5 = 0 ∨ k % 5 = 1 ∨ k % 5 = 2 ∨ k % 5 = 3 ∨ k % 5 = 4 := by omega
  have h2 : a % 2 = 0 ∨ a % 2 = 1 := by omega
  have go : ∀ y z, a % 2 = y → k % 5 = z → run 7 [s, a, k] [0, y, z] = some [(k, 5, z), (a, 2, y), (s, 3, 0)] → Calls Tryz.prog 7 #[.int .i64 s, .int .i64 a, .int .i64 k] w fun e w1 => e = .returned (.bool true) ∧ Below w.heap.size w w1 := fun y z hy hz hr =>
    law hr (by simp [h, hy, hz]) w
  rcases h2 with h2 | h2
  · rcases h5 with h5 | h5 | h5 | h5 | h5
    · exact go _ _ h2 h5 (one000 s a k)
    · exact go _ _ h2 h5 (one001 s a k)
    · exact go _ _ h2 h5 (one002 s a k)
    · exact go _ _ h2 h5 (one003 s a k)
    · exact go _ _ h2 h5 (one004 s a k)
  · rcases h5 with h5 | h5 | h5 | h5 | h5
    · exact go _ _ h2 h5 (one010 s a k)
    · exact go _ _ h2 h5 (one011 s a k)
    · exact go _ _ h2 h5 (one012 s a k)
    · exact go _ _ h2 h5 (one013 s a k)
    · exact go _ _ h2 h5 (one014 s a k)

end Go.Proofs.YtkilagbpemchpaaGreat.Ae
