import Derived.Test.YtkilagbpemchpaaGreatAeLawAuto
namespace Go.Proofs.YtkilagbpemchpaaGreat.Ae
open Go Go.Ae Go.RowKit Go.Proofs

theorem one100 (s a k : Int) : run 7 [s, a, k] [1, 0, 0] = some [(k, 5, 0), (a, 3, 0), (s, 3, 1)] := by kernel_rfl
theorem one101 (s a k : Int) : run 7 [s, a, k] [1, 0, 1] = some [(k, 5, 1), (a, 3, 0), (s, 3, 1)] := by kernel_rfl
theorem one102 (s a k : Int) : run 7 [s, a, k] [1, 0, 2] = some [(k, 5, 2), (a, 3, 0), (s, 3, 1)] := by kernel_rfl
theorem one103 (s a k : Int) : run 7 [s, a, k] [1, 0, 3] = some [(k, 5, 3), (a, 3, 0), (s, 3, 1)] := by kernel_rfl
theorem one104 (s a k : Int) : run 7 [s, a, k] [1, 0, 4] = some [(k, 5, 4), (a, 3, 0), (s, 3, 1)] := by kernel_rfl
theorem one110 (s a k : Int) : run 7 [s, a, k] [1, 1, 0] = some [(k, 5, 0), (a, 3, 1), (s, 3, 1)] := by kernel_rfl
theorem one111 (s a k : Int) : run 7 [s, a, k] [1, 1, 1] = some [(k, 5, 1), (a, 3, 1), (s, 3, 1)] := by kernel_rfl
theorem one112 (s a k : Int) : run 7 [s, a, k] [1, 1, 2] = some [(k, 5, 2), (a, 3, 1), (s, 3, 1)] := by kernel_rfl
theorem one113 (s a k : Int) : run 7 [s, a, k] [1, 1, 3] = some [(k, 5, 3), (a, 3, 1), (s, 3, 1)] := by kernel_rfl
theorem one114 (s a k : Int) : run 7 [s, a, k] [1, 1, 4] = some [(k, 5, 4), (a, 3, 1), (s, 3, 1)] := by kernel_rfl
theorem one120 (s a k : Int) : run 7 [s, a, k] [1, 2, 0] = some [(k, 5, 0), (a, 3, 2), (s, 3, 1)] := by kernel_rfl
theorem one121 (s a k : Int) : run 7 [s, a, k] [1, 2, 1] = some [(k, 5, 1), (a, 3, 2), (s, 3, 1)] := by kernel_rfl
theorem one122 (s a k : Int) : run 7 [s, a, k] [1, 2, 2] = some [(k, 5, 2), (a, 3, 2), (s, 3, 1)] := by kernel_rfl
theorem one123 (s a k : Int) : run 7 [s, a, k] [1, 2, 3] = some [(k, 5, 3), (a, 3, 2), (s, 3, 1)] := by kernel_rfl
theorem one124 (s a k : Int) : run 7 [s, a, k] [1, 2, 4] = some [(k, 5, 4), (a, 3, 2), (s, 3, 1)] := by kernel_rfl
theorem single1 (s a k : Int) (w : World) (h : s % 3 = 1) : Calls Tryz.prog 7 #[.int .i64 s, .int .i64 a, .int .i64 k] w fun e w1 => e = .returned (.bool true) ∧ Below w.heap.size w w1 := by
  have h5 : k % 5 = 0 ∨ k % 5 = 1 ∨ k % 5 = 2 ∨ k % 5 = 3 ∨ k % 5 = 4 := by omega
  have h2 : a % 3 = 0 ∨ a % 3 = 1 ∨ a % 3 = 2 := by omega
  have go : ∀ y z, a % 3 = y → k % 5 = z → run 7 [s, a, k] [1, y, z] = some [(k, 5, z), (a, 3, y), (s, 3, 1)] → Calls Tryz.prog 7 #[.int .i64 s, .int .i64 a, .int .i64 k] w fun e w1 => e = .returned (.bool true) ∧ Below w.heap.size w w1 := fun y z hy hz hr =>
    law hr (by simp [h, hy, hz]) w
  rcases h2 with h2 | h2 | h2
  · rcases h5 with h5 | h5 | h5 | h5 | h5
    · exact go _ _ h2 h5 (one100 s a k)
    · exact go _ _ h2 h5 (one101 s a k)
    · exact go _ _ h2 h5 (one102 s a k)
    · exact go _ _ h2 h5 (one103 s a k)
    · exact go _ _ h2 h5 (one104 s a k)
  · rcases h5 with h5 | h5 | h5 | h5 | h5
    · exact go _ _ h2 h5 (one110 s a k)
    · exact go _ _ h2 h5 (one111 s a k)
    · exact go _ _ h2 h5 (one112 s a k)
    · exact go _ _ h2 h5 (one113 s a k)
    · exact go _ _ h2 h5 (one114 s a k)
  · rcases h5 with h5 | h5 | h5 | h5 | h5
    · exact go _ _ h2 h5 (one120 s a k)
    · exact go _ _ h2 h5 (one121 s a k)
    · exact go _ _ h2 h5 (one122 s a k)
    · exact go _ _ h2 h5 (one123 s a k)
    · exact go _ _ h2 h5 (one124 s a k)

end Go.Proofs.YtkilagbpemchpaaGreat.Ae
