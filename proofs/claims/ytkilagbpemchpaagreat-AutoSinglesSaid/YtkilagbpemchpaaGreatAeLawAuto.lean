import Derived.Test.YtkilagbpemchpaaGreatAeWithinAuto
namespace Go.Proofs.YtkilagbpemchpaaGreat.Ae
open Go Go.Ae Go.RowKit Go.Proofs

theorem prims : PrimOk Tryz.prog 11 26 where
  fk := ⟨Tryz.f11, Tryz.func11, rfl, by kernel_rfl⟩
  fw := ⟨Tryz.f26, Tryz.func26, rfl, by kernel_rfl⟩
  known := known
  within := fun a n w => within a n w

noncomputable def run (f : Nat) (args : List Int) (ora : List Int) : Option (List (Int × Int × Int)) :=
  runsTrue (icall T (lookB FT) (primF 11 26) (isPrimF 11 26) 100000 100 f (ints args) h00 ⟨ora, []⟩)

theorem law {f : Nat} {args : List Int} {ora : List Int} {asm : List (Int × Int × Int)} (hr : run f args ora = some asm) (hA : ∀ x ∈ asm, x.1 % x.2.1 = x.2.2) (w : World) :
    Calls Tryz.prog f (args.map fun n => Value.int .i64 n).toArray w fun e w1 => e = .returned (.bool true) ∧ Below w.heap.size w w1 :=
  law_true T_ok mixed (primF_sound prims) F_ok hr hA (ints_rel _ _) w

theorem autoKnown (d : Int) (w : World) : Calls Tryz.prog 6 #[.int .i64 d] w fun e w1 => e = .returned (.bool true) ∧ Below w.heap.size w w1 := by
  have h : d % 5 = 0 ∨ d % 5 = 1 ∨ d % 5 = 2 ∨ d % 5 = 3 ∨ d % 5 = 4 := by omega
  have go : ∀ k, d % 5 = k → run 6 [d] [k] = some [(d, 5, k)] → Calls Tryz.prog 6 #[.int .i64 d] w fun e w1 => e = .returned (.bool true) ∧ Below w.heap.size w w1 := fun k hk hr =>
    law hr (by simp [hk]) w
  rcases h with h | h | h | h | h
  · exact go _ h (by kernel_rfl)
  · exact go _ h (by kernel_rfl)
  · exact go _ h (by kernel_rfl)
  · exact go _ h (by kernel_rfl)
  · exact go _ h (by kernel_rfl)

end Go.Proofs.YtkilagbpemchpaaGreat.Ae
