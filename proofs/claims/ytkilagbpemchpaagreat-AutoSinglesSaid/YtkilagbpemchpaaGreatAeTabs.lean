/-
  The tables, out of a program.
-/
import Derived.Test.YtkilagbpemchpaaGreatAeCall
set_option linter.unusedVariables false
set_option linter.unusedSimpArgs false
namespace Go.Ae
open Go Go.RowKit

def tdOf : TypeDesc → Option TD
  | .bool => some .bool
  | .int k => some (.int k)
  | .string => some .str
  | .pointer e => some (.ptr e)
  | .slice e => some (.slice e)
  | .array n e => some (.array n e)
  | .map k e => some (.map k e)
  | .struct a => some (.struct (a.toList.map fun f => (f.offset, f.type)))
  | .func _ _ _ => some .func
  | _ => none

def zeroOf : Option Value → Option IV
  | some v => ofVal v
  | none => none

def tiOf (P : Program) (t : TypeId) : Option TI :=
  match P.info? t, P.underlying t with
  | some f, some d => match tdOf d with
    | some td => some ⟨td, f.size, f.bytes, zeroOf f.zero⟩
    | none => none
  | _, _ => none

theorem tdOf_ok {d : TypeDesc} {td : TD} (h : tdOf d = some td) : TDok td d := by
  cases d <;> simp only [tdOf, Option.some.injEq] at h <;> (try cases h) <;> simp only [TDok]
  · exact ⟨_, rfl, rfl⟩
  · exact ⟨_, _, _, rfl⟩

theorem tiOf_ok {P : Program} {t : TypeId} {i : TI} (h : tiOf P t = some i) : TIok P t i := by
  unfold tiOf at h
  split at h <;> (try cases h)
  rename_i f d hf hd
  split at h <;> (try cases h)
  rename_i td htd
  refine ⟨⟨f, hf, rfl, rfl, fun z hz => ?_⟩, d, hd, tdOf_ok htd⟩
  simp only [zeroOf] at hz
  split at hz <;> (try cases hz)
  rename_i v hv
  exact ⟨v, hv, fun ρ => VR_ofVal ρ hz⟩

def lookB {α : Type} : List (Nat × α) → Nat → Option α
  | [], _ => none
  | x :: r, k => match Nat.beq x.1 k with
    | true => some x.2
    | false => lookB r k

theorem lookB_mem {α : Type} : ∀ {l : List (Nat × α)} {k : Nat} {a : α}, lookB l k = some a → (k, a) ∈ l
  | [], k, a, h => by simp [lookB] at h
  | x :: r, k, a, h => by
    simp only [lookB] at h
    split at h
    · rename_i e
      injection h with h
      subst h
      have := Nat.eq_of_beq_eq_true e
      subst this
      exact List.mem_cons_self ..
    · exact List.mem_cons_of_mem _ (lookB_mem h)

def mkTabs (P : Program) (mask : Nat) (sk eq : List (Nat × Nat)) : Tabs where
  ty t := match Nat.testBit mask t with
    | true => tiOf P t
    | false => none
  sk := lookB sk
  eq := lookB eq

def tabB (P : Program) (mask : Nat) (t : Nat) : Bool :=
  match Nat.testBit mask t with
  | true => match tiOf P t with
    | some i => (match i.d with
        | .struct fs => fs.all fun x => match Nat.testBit mask x.2 with
          | true => match tiOf P x.2 with | some _ => true | none => false
          | false => false
        | _ => true) && (match i.zero with | some z => Nat.beq z.cells.length i.size | none => true)
    | none => true
  | false => true

theorem mkTabs_ok {P : Program} {mask n : Nat} {sk eq : List (Nat × Nat)} (hn : Nat.blt mask (2 ^ n) = true) (hc : ((List.range n).all fun t => tabB P mask t) = true)
    (he : ∀ x ∈ eq, EqOk P x.1 x.2) (hs : ∀ x ∈ sk, KeyOk P x.1 x.2) : TabsOk P (mkTabs P mask sk eq) := by
  have hb : ∀ t, tabB P mask t = true := fun t => by
    by_cases h : t < n
    · exact List.all_eq_true.1 hc t (List.mem_range.2 h)
    · have : Nat.testBit mask t = false := by
        refine Nat.testBit_lt_two_pow ?_
        simp only [Nat.blt_eq] at hn
        exact Nat.lt_of_lt_of_le hn (Nat.pow_le_pow_right (by omega) (by omega))
      unfold tabB
      rw [this]
  have hty : ∀ t i, (mkTabs P mask sk eq).ty t = some i → Nat.testBit mask t = true ∧ tiOf P t = some i := fun t i h => by
    simp only [mkTabs] at h
    split at h
    · exact ⟨by assumption, h⟩
    · cases h
  refine ⟨fun t i h => tiOf_ok (hty t i h).2, fun t m h => he _ (lookB_mem h), fun t m h => hs _ (lookB_mem h), fun t i fs h hd x hx => ?_, fun t i z h hz => ?_⟩
  · obtain ⟨h1, h2⟩ := hty t i h
    have := hb t
    unfold tabB at this
    rw [h1, h2] at this
    simp only [hd, Bool.and_eq_true] at this
    have := List.all_eq_true.1 this.1 x hx
    split at this
    · rename_i e
      split at this
      · rename_i j hj
        exact ⟨j, by simp only [mkTabs, e, hj]⟩
      · cases this
    · cases this
  · obtain ⟨h1, h2⟩ := hty t i h
    have := hb t
    unfold tabB at this
    rw [h1, h2] at this
    simp only [hz, Bool.and_eq_true] at this
    exact Nat.eq_of_beq_eq_true this.2

def fiOf (fn : Func) (ris : List (Nat × RI)) : FI := ⟨fn.ntmps, fn.results.toList, fn.body.getD .skip, lookB ris⟩

theorem fiOf_ok {P : Program} {T : Tabs} {f : FuncId} {fn : Func} {ris : List (Nat × RI)} (hf : P.funcs[f]? = some fn) (hb : fn.body.isSome = true) (hn : (fn.name == "runtime.NumGoroutine") = false)
    (hc : codeOK T (lookB ris) fn.ntmps (fn.body.getD .skip) = true) : FIok P T f (fiOf fn ris) := by
  refine ⟨⟨fn, hf, ?_, rfl, rfl, hn⟩, hc⟩
  cases e : fn.body with
  | none => rw [e] at hb; cases hb
  | some c => simp [fiOf, e]

def noPrim : CallF := fun _ _ _ _ => none
theorem noPrim_sound (P : Program) : Sound P noPrim := fun f args h s v h1 s1 hr => by cases hr

def h00 : IH := ⟨0, .nil, 1000000000000⟩
def r00 : Ren := fun _ => none

theorem HR.start (w : World) : HR r00 w.heap.size h00 w :=
  ⟨fun b m h => by (cases h), fun b c m l h => by (cases h), fun b m h => by (cases h), Nat.le_refl _⟩

/-- A closed function that answers true. -/
theorem closed_true {P : Program} {T : Tabs} (hT : TabsOk P T) (hm : P.follows .mixedOrders = true) {FT : List (Nat × FI)} {prim : CallF} {isPrim : FuncId → Bool} (hP : Sound P prim) (hF : ∀ x ∈ FT, FIok P T x.1 x.2)
    {fuel d : Nat} {f : FuncId} {ora : List Int} (hr : (match icall T (lookB FT) prim isPrim fuel d f [] h00 ⟨ora, []⟩ with | some (.bool true, _, ⟨_, []⟩) => true | _ => false) = true) (w : World) :
    Calls P f #[] w fun e w1 => e = .returned (.bool true) ∧ Below w.heap.size w w1 := by
  split at hr <;> (try cases hr)
  rename_i h1 o1 e
  obtain ⟨_, _, _, g⟩ := icall_sound hT hm hP (fun f fi hf => hF _ (lookB_mem hf)) d f [] h00 _ _ h1 _ e
  refine (g (fun x hx => by cases hx) r00 w.heap.size w [] rfl (HR.start w)).mono fun ex w1 hh => ?_
  obtain ⟨v', ρ1, rfl, q1, q2⟩ := hh
  simp only [VR] at q1
  subst q1
  exact ⟨rfl, q2.below (Nat.le_refl _)⟩

end Go.Ae
