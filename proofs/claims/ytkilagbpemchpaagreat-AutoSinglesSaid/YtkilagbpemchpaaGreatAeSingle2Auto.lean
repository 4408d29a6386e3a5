import Derived.Test.YtkilagbpemchpaaGreatAeLawAuto
namespace Go.Proofs.YtkilagbpemchpaaGreat.Ae
open Go Go.Ae Go.RowKit Go.Proofs

theorem one200 (s a k : Int) : run 7 [s, a, k] [2, 0, 0] = some [(k, 5, 0), (a, 4, 0), (s, 3, 2)] := by kernel_rfl
theorem one201 (s a k : Int) : run 7 [s, a, k] [2, 0, 1] = some [(k, 5, 1), (a, 4, 0), (s, 3, 2)] := by kernel_rfl
theorem one202 (s a k : Int) : run 7 [s, a, k] [2, 0, 2] = some [(k, 5, 2), (a, 4, 0), (s, 3, 2)] := by kernel_rfl
theorem one203 (s a k : Int) : run 7 [s, a, k] [2, 0, 3] = some [(k, 5, 3), (a, 4, 0), (s, 3, 2)] := by kernel_rfl
theorem one204 (s a k : Int) : run 7 [s, a, k] [2, 0, 4] = some [(k, 5, 4), (a, 4, 0), (s, 3, 2)] := by kernel_rfl
theorem one210 (s a k : Int) : run 7 [s, a, k] [2, 1, 0] = some [(k, 5, 0), (a, 4, 1), (s, 3, 2)] := by kernel_rfl
theorem one211 (s a k : Int) : run 7 [s, a, k] [2, 1, 1] = some [(k, 5, 1), (a, 4, 1), (s, 3, 2)] := by kernel_rfl
theorem one212 (s a k : Int) : run 7 [s, a, k] [2, 1, 2] = some [(k, 5, 2), (a, 4, 1), (s, 3, 2)] := by kernel_rfl
theorem one213 (s a k : Int) : run 7 [s, a, k] [2, 1, 3] = some [(k, 5, 3), (a, 4, 1), (s, 3, 2)] := by kernel_rfl
theorem one214 (s a k : Int) : run 7 [s, a, k] [2, 1, 4] = some [(k, 5, 4), (a, 4, 1), (s, 3, 2)] := by kernel_rfl
theorem one220 (s a k : Int) : run 7 [s, a, k] [2, 2, 0] = some [(k, 5, 0), (a, 4, 2), (s, 3, 2)] := by kernel_rfl
theorem one221 (s a k : Int) : run 7 [s, a, k] [2, 2, 1] = some [(k, 5, 1), (a, 4, 2), (s, 3, 2)] := by kernel_rfl
theorem one222 (s a k : Int) : run 7 [s, a, k] [2, 2, 2] = some [(k, 5, 2), (a, 4, 2), (s, 3, 2)] := by kernel_rfl
theorem one223 (s a k : Int) : run 7 [s, a, k] [2, 2, 3] = some [(k, 5, 3), (a, 4, 2), (s, 3, 2)] := by kernel_rfl
theorem one224 (s a k : Int) : run 7 [s, a, k] [2, 2, 4] = some [(k, 5, 4), (a, 4, 2), (s, 3, 2)] := by kernel_rfl
theorem one230 (s a k : Int) : run 7 [s, a, k] [2, 3, 0] = some [(k, 5, 0), (a, 4, 3), (s, 3, 2)] := by kernel_rfl
theorem one231 (s a k : Int) : run 7 [s, a, k] [2, 3, 1] = some [(k, 5, 1), (a, 4, 3), (s, 3, 2)] := by kernel_rfl
theorem one232 (s a k : Int) : run 7 [s, a, k] [2, 3, 2] = some [(k, 5, 2), (a, 4, 3), (s, 3, 2)] := by kernel_rfl
theorem one233 (s a k : Int) : run 7 [s, a, k] [2, 3, 3] = some [(k, 5, 3), (a, 4, 3), (s, 3, 2)] := by kernel_rfl
theorem one234 (s a k : Int) : run 7 [s, a, k] [2, 3, 4] = some [(k, 5, 4), (a, 4, 3), (s, 3, 2)] := by kernel_rfl
theorem single2 (s a k : Int) (w : World) (h : s % 3 = 2) : Calls Tryz.prog 7 #[.int .i64 s, .int .i64 a, .int .i64 k] w fun e w1 => e = .returned (.bool true) ∧ Below w.heap.size w w1 := by
  have h5 : k % 5 = 0 ∨ k % 5 = 1 ∨ k % 5 = 2 ∨ k % 5 = 3 ∨ k % 5 = 4 := by omega
  have h2 : a % 4 = 0 ∨ a % 4 = 1 ∨ a % 4 = 2 ∨ a % 4 = 3 := by omega
  have go : ∀ y z, a % 4 = y → k % 5 = z → run 7 [s, a, k] [2, y, z] = some [(k, 5, z), (a, 4, y), (s, 3, 2)] → Calls Tryz.prog 7 #[.int .i64 s, .int .i64 a, .int .i64 k] w fun e w1 => e = .returned (.bool true) ∧ Below w.heap.size w w1 := fun y z hy hz hr =>
    law hr (by simp [h, hy, hz]) w
  rcases h2 with h2 | h2 | h2 | h2
  · rcases h5 with h5 | h5 | h5 | h5 | h5
    · exact go _ _ h2 h5 (one200 s a k)
    · exact go _ _ h2 h5 (one201 s a k)
    · exact go _ _ h2 h5 (one202 s a k)
    · exact go _ _ h2 h5 (one203 s a k)
    · exact go _ _ h2 h5 (one204 s a k)
  · rcases h5 with h5 | h5 | h5 | h5 | h5
    · exact go _ _ h2 h5 (one210 s a k)
    · exact go _ _ h2 h5 (one211 s a k)
    · exact go _ _ h2 h5 (one212 s a k)
    · exact go _ _ h2 h5 (one213 s a k)
    · exact go _ _ h2 h5 (one214 s a k)
  · rcases h5 with h5 | h5 | h5 | h5 | h5
    · exact go _ _ h2 h5 (one220 s a k)
    · exact go _ _ h2 h5 (one221 s a k)
    · exact go _ _ h2 h5 (one222 s a k)
    · exact go _ _ h2 h5 (one223 s a k)
    · exact go _ _ h2 h5 (one224 s a k)
  · rcases h5 with h5 | h5 | h5 | h5 | h5
    · exact go _ _ h2 h5 (one230 s a k)
    · exact go _ _ h2 h5 (one231 s a k)
    · exact go _ _ h2 h5 (one232 s a k)
    · exact go _ _ h2 h5 (one233 s a k)
    · exact go _ _ h2 h5 (one234 s a k)

end Go.Proofs.YtkilagbpemchpaaGreat.Ae
