/-
  Functions whose answers are given: one that is known to answer true, and one that answers a rest of a division.
-/
import Derived.Test.YtkilagbpemchpaaGreatAeTabs
set_option linter.unusedVariables false
set_option linter.unusedSimpArgs false
namespace Go.Ae
open Go Go.RowKit

theorem HR.below {ρ : Ren} {B : Nat} {h : IH} {w w1 : World} (k : HR ρ B h w) (b : Below w.heap.size w w1) : HR ρ B h w1 := by
  have hs : w.heap.size ≤ w1.heap.size := b.size
  refine ⟨fun x m e => ⟨(k.dom x m e).1, Nat.lt_of_lt_of_le (k.dom x m e).2 hs⟩, k.inj, fun x m e => ?_, Nat.le_trans k.base hs⟩
  rw [b.block m.blk (k.dom x m e).2]
  exact k.obj x m e

theorem Stp.of_below {ρ : Ren} {B : Nat} {h : IH} {w w1 : World} (k : HR ρ B h w) (b : Below w.heap.size w w1) : Stp ρ ρ B h h w w1 :=
  ⟨ρ.le_refl, Ext.refl h, k.below b, b.os, b.tape, b.output, b.size, fun i hi => .inl (b.block i hi), fun j m a c => by rw [a] at c; cases c⟩

structure PrimOk (P : Program) (kn wi : FuncId) : Prop where
  fk : ∃ fn, P.funcs[kn]? = some fn ∧ fn.body.isNone = false ∧ (fn.name == "runtime.NumGoroutine") = false
  fw : ∃ fn, P.funcs[wi]? = some fn ∧ fn.body.isNone = false ∧ (fn.name == "runtime.NumGoroutine") = false
  known : ∀ w, Calls P kn #[] w fun e w1 => e = .returned (.bool true) ∧ Below w.heap.size w w1
  within : ∀ a n w, 0 < n → n ≤ 4611686018427387904 → Calls P wi #[.int .i64 a, .int .i64 n] w fun e w1 => e = .returned (.int .i64 (a % n)) ∧ Below w.heap.size w w1

def primF (kn wi : FuncId) : CallF := fun f args h s =>
  match Nat.beq f kn with
  | true => match args with
    | [] => some (.bool true, h, s)
    | _ => none
  | false => match Nat.beq f wi with
    | true => match args, s.ora with
      | [.int .i64 a, .int .i64 n], k :: r => if 0 < n then (if n ≤ 4611686018427387904 then some (.int .i64 k, h, ⟨r, (a, n, k) :: s.asm⟩) else none) else none
      | _, _ => none
    | false => none

def isPrimF (kn wi : FuncId) (f : FuncId) : Bool := Nat.beq f kn || Nat.beq f wi

theorem primF_sound {P : Program} {kn wi : FuncId} (k : PrimOk P kn wi) : Sound P (primF kn wi) := by
  intro f args h s v h1 s1 hr
  unfold primF at hr
  split at hr
  · rename_i hf
    have := Nat.eq_of_beq_eq_true hf
    subst this
    split at hr <;> (try cases hr)
    refine ⟨k.fk, ⟨[], rfl⟩, Ext.refl _, fun hA ρ B w args' ha kk => ?_⟩
    simp only [VRs] at ha
    subst ha
    refine (k.known w).mono fun e w1 hh => ?_
    obtain ⟨rfl, hb⟩ := hh
    exact ⟨_, ρ, rfl, rfl, Stp.of_below kk hb⟩
  · split at hr <;> (try cases hr)
    rename_i hf
    have := Nat.eq_of_beq_eq_true hf
    subst this
    split at hr <;> (try cases hr)
    rename_i a n kx r ho
    split at hr <;> (try cases hr)
    rename_i hn
    split at hr <;> (try cases hr)
    rename_i hn2
    refine ⟨k.fw, ⟨[_], rfl⟩, Ext.refl _, fun hA ρ B w args' ha kk => ?_⟩
    have hk : a % n = kx := hA (a, n, kx) (List.mem_cons_self ..)
    subst hk
    simp only [VRs, VR] at ha
    obtain ⟨v1, vs1, rfl, rfl, v2, vs2, rfl, rfl, rfl⟩ := ha
    refine (k.within a n w hn hn2).mono fun e w1 hh => ?_
    obtain ⟨rfl, hb⟩ := hh
    exact ⟨_, ρ, rfl, rfl, Stp.of_below kk hb⟩

def runsTrue (r : Option (IV × IH × Side)) : Option (List (Int × Int × Int)) :=
  match r with
  | some (.bool true, _, s) => some s.asm
  | _ => none

/-- A law over ints, once the rests are known. -/
theorem law_true {P : Program} {T : Tabs} (hT : TabsOk P T) (hm : P.follows .mixedOrders = true) {FT : List (Nat × FI)} {prim : CallF} {isPrim : FuncId → Bool} (hP : Sound P prim) (hF : ∀ x ∈ FT, FIok P T x.1 x.2)
    {fuel d : Nat} {f : FuncId} {ora : List Int} {args : List IV} {args' : List Value} {asm : List (Int × Int × Int)} (hr : runsTrue (icall T (lookB FT) prim isPrim fuel d f args h00 ⟨ora, []⟩) = some asm)
    (hA : ∀ x ∈ asm, x.1 % x.2.1 = x.2.2) (ha : VRs r00 args args') (w : World) :
    Calls P f args'.toArray w fun e w1 => e = .returned (.bool true) ∧ Below w.heap.size w w1 := by
  unfold runsTrue at hr
  split at hr <;> (try cases hr)
  rename_i h1 s1 e
  obtain ⟨_, _, _, g⟩ := icall_sound hT hm hP (fun f fi hf => hF _ (lookB_mem hf)) d f args h00 _ _ h1 _ e
  refine (g hA r00 w.heap.size w args' ha (HR.start w)).mono fun ex w1 hh => ?_
  obtain ⟨v', ρ1, rfl, q1, q2⟩ := hh
  simp only [VR] at q1
  subst q1
  exact ⟨rfl, q2.below (Nat.le_refl _)⟩

/-- The same, for a given list of rests. -/
def ints (l : List Int) : List IV := l.map fun n => .int .i64 n
theorem ints_rel (ρ : Ren) : ∀ l : List Int, VRs ρ (ints l) (l.map fun n => Value.int .i64 n)
  | [] => rfl
  | n :: l => ⟨_, _, rfl, rfl, ints_rel ρ l⟩

end Go.Ae
