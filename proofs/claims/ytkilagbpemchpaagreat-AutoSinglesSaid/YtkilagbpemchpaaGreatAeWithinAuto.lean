import Derived.Test.YtkilagbpemchpaaGreatAeRunAuto
import Derived.Tactics
import Derived.WalkKit
import Derived.RowKit3
import Derived.Laws.BitsLemmas
namespace Go.Proofs.YtkilagbpemchpaaGreat.Ae
open Go Go.Ae Go.RowKit Go.Proofs

theorem rest_neg {a n : Int} (h0 : 0 < n) (h : Int.tmod a n < 0) : Int.tmod a n + n = a % n := by
  have h1 : a % n = (Int.tmod a n) % n := by
    have e : a = Int.tmod a n + n * Int.tdiv a n := (Int.tmod_add_mul_tdiv a n).symm
    conv => lhs; rw [e]
    rw [Int.add_mul_emod_self_left]
  have h2 : -n < Int.tmod a n := by
    have := Int.lt_tmod_of_pos a h0
    omega
  rw [h1, ← Int.add_emod_right, Int.emod_eq_of_lt (by omega) (by omega)]

theorem rest_pos {a n : Int} (h0 : 0 < n) (h : ¬ Int.tmod a n < 0) : Int.tmod a n = a % n := by
  have h1 : a % n = (Int.tmod a n) % n := by
    have e : a = Int.tmod a n + n * Int.tdiv a n := (Int.tmod_add_mul_tdiv a n).symm
    conv => lhs; rw [e]
    rw [Int.add_mul_emod_self_left]
  rw [h1, Int.emod_eq_of_lt (by omega) (Int.tmod_lt_of_pos a h0)]

theorem within (a n : Int) (w : World) (h0 : 0 < n) (h1 : n ≤ 4611686018427387904) : Calls Tryz.prog 26 #[.int .i64 a, .int .i64 n] w fun e w1 => e = .returned (.int .i64 (a % n)) ∧ Below w.heap.size w w1 := by
  have c3 : n ≠ 0 := by omega
  have c3b0 : (n == 0) = false := beq_eq_false_iff_ne.mpr c3
  have c3b1 : (n != 0) = true := bne_iff_ne.mpr c3
  have hlt : -n < Int.tmod a n := by
    have := Int.lt_tmod_of_pos a h0
    omega
  by_cases c4 : (Int.tmod a n) < 0
  · have c4b0 : decide ((Int.tmod a n) < 0) = true := decide_eq_true c4
    have hw := rest_neg h0 c4
    go_enter Tryz.func26, Tryz.ntmps26
    go_wp2
    go_ret
    exact ⟨by first | rfl | (simp [hw]; done), ⟨rfl, rfl, rfl, Nat.le_refl _, fun _ _ => rfl⟩⟩
  · have c4b0 : decide ((Int.tmod a n) < 0) = false := decide_eq_false c4
    have hw := rest_pos h0 c4
    go_enter Tryz.func26, Tryz.ntmps26
    go_wp2
    go_ret
    exact ⟨by first | rfl | (simp [hw]; done), ⟨rfl, rfl, rfl, Nat.le_refl _, fun _ _ => rfl⟩⟩
end Go.Proofs.YtkilagbpemchpaaGreat.Ae
