/-
  Equality of structs of ints, and such structs as keys.
-/
import Derived.Test.YtkilagbpemchpaaGreatAeTabs
import Derived.Laws.StructEq
import Derived.ChangeKeysEq
set_option linter.unusedVariables false
set_option linter.unusedSimpArgs false
namespace Go.Ae
open Go Go.RowKit

def fieldsB (P : Program) : List Field → Nat → Bool
  | [], _ => true
  | f :: r, i => f.name != "_" && Nat.beq f.offset i && (match P.underlying f.type with | some (.int _) => true | _ => false) && fieldsB P r (i + 1)

theorem part_at {P : Program} {t : TypeId} {k : IntKind} (h : P.underlying t = some (.int k)) {xs : Array Value} {i : Nat} {v : Value} (hv : xs[i]? = some v) (w : World) : (part t xs i).run P w = .ok v w := by
  simp [part, isAgg, run_underlying h, hv]

theorem eqFields_ok {P : Program} (d : Nat) {ρ : Ren} {xs' ys' : List Value} (w : World) : ∀ (fs : List Field) (i : Nat) (xs ys : List IV) (r : Bool), fieldsB P fs i = true → eqPlain xs ys = some r → xs.length = fs.length → ys.length = fs.length →
    VRs ρ xs (xs'.drop i) → VRs ρ ys (ys'.drop i) → (Op.eqFields (d + 1) xs'.toArray ys'.toArray fs).run P w = .ok r w
  | [], i, xs, ys, r, hf, he, hx, hy, vx, vy => by
    simp only [List.length_nil, List.length_eq_zero_iff] at hx hy
    subst hx hy
    simp only [eqPlain, Option.some.injEq] at he
    subst he
    simp [Op.eqFields]
  | f :: fs, i, xs, ys, r, hf, he, hx, hy, vx, vy => by
    simp only [fieldsB, Bool.and_eq_true] at hf
    obtain ⟨⟨⟨h1, h2⟩, h3⟩, h4⟩ := hf
    have hoff := Nat.eq_of_beq_eq_true h2
    have hname : f.name ≠ "_" := by simpa using h1
    have hu : ∃ k, P.underlying f.type = some (.int k) := by
      split at h3
      · exact ⟨_, by assumption⟩
      · cases h3
    obtain ⟨k0, hu⟩ := hu
    rcases xs with _ | ⟨x, xs⟩
    · simp at hx
    rcases ys with _ | ⟨y, ys⟩
    · simp at hy
    cases x <;> cases y <;> simp only [eqPlain] at he <;> (try cases he)
    rename_i k a k' b
    split at he <;> (try cases he)
    rename_i hk
    subst hk
    simp only [VRs] at vx vy
    obtain ⟨v, vs, ev, e1, e2⟩ := vx
    obtain ⟨u, us, eu, e3, e4⟩ := vy
    simp only [VR] at e1 e3
    subst e1 e3
    have gx : xs'.toArray[f.offset]? = some (.int k a) := by
      have : (xs'.drop i)[0]? = some (.int k a) := by rw [ev]; rfl
      rw [List.getElem?_drop] at this
      rw [hoff]
      simpa using this
    have gy : ys'.toArray[f.offset]? = some (.int k b) := by
      have : (ys'.drop i)[0]? = some (.int k b) := by rw [eu]; rfl
      rw [List.getElem?_drop] at this
      rw [hoff]
      simpa using this
    have dx : xs'.drop (i + 1) = vs := by
      have : (xs'.drop i).drop 1 = vs := by rw [ev]; rfl
      rw [List.drop_drop] at this
      exact this
    have dy : ys'.drop (i + 1) = us := by
      have : (ys'.drop i).drop 1 = us := by rw [eu]; rfl
      rw [List.drop_drop] at this
      exact this
    rw [Op.eqFields]
    simp only [if_pos hname, Sem.run_bind, part_at hu gx, part_at hu gy, run_equalIn_int w d f.type k k0 a b hu, Result.andThen_ok]
    by_cases hab : a = b
    · subst hab
      rw [if_pos rfl] at he
      have := eqFields_ok d w fs (i + 1) xs ys r h4 he (by simpa using hx) (by simpa using hy) (by rw [dx]; exact e2) (by rw [dy]; exact e4)
      simpa using this
    · rw [if_neg hab, Option.map_eq_some_iff] at he
      obtain ⟨_, _, rfl⟩ := he
      simp [hab]

theorem eqOk_struct {P : Program} {t : TypeId} {fs : Array Field} {n : Nat} (hu : P.underlying t = some (.struct fs)) (hp : P.stoodInHeld t = false) (hg : P.eqGuardType P.depth t = false) (hf : fieldsB P fs.toList 0 = true) (hn : fs.toList.length = n) : EqOk P t n := by
  refine ⟨fun xs ys hx hy r he ρ xs' ys' vx vy w => ?_, hg⟩
  have hfs : P.fieldsOf t = fs := by simp [Program.fieldsOf, hu]
  show (Op.equalIn 10000 t _ _).run P w = _
  rw [run_equalIn_struct (P := P) w 9999 t _ _ (by rw [hfs]; exact hu) hp, hfs]
  exact eqFields_ok 9998 w fs.toList 0 xs ys r hf he (by omega) (by omega) (by simpa using vx) (by simpa using vy)

theorem eqItems_ok {P : Program} (d : Nat) {ρ : Ren} {xs' ys' : List Value} {e : TypeId} {k0 : IntKind} (hu : P.underlying e = some (.int k0)) (w : World) : ∀ (m i : Nat) (xs ys : List IV) (r : Bool), eqPlain xs ys = some r → xs.length = m → ys.length = m →
    VRs ρ xs (xs'.drop i) → VRs ρ ys (ys'.drop i) → (Op.eqItems (d + 1) e 1 xs'.toArray ys'.toArray (List.range' i m)).run P w = .ok r w
  | 0, i, xs, ys, r, he, hx, hy, vx, vy => by
    simp only [List.length_eq_zero_iff] at hx hy
    subst hx hy
    simp only [eqPlain, Option.some.injEq] at he
    subst he
    simp [Op.eqItems]
  | m + 1, i, xs, ys, r, he, hx, hy, vx, vy => by
    rcases xs with _ | ⟨x, xs⟩
    · simp at hx
    rcases ys with _ | ⟨y, ys⟩
    · simp at hy
    cases x <;> cases y <;> simp only [eqPlain] at he <;> (try cases he)
    rename_i k a k' b
    split at he <;> (try cases he)
    rename_i hk
    subst hk
    simp only [VRs] at vx vy
    obtain ⟨v, vs, ev, e1, e2⟩ := vx
    obtain ⟨u, us, eu, e3, e4⟩ := vy
    simp only [VR] at e1 e3
    subst e1 e3
    have gx : xs'.toArray[i * 1]? = some (.int k a) := by
      have : (xs'.drop i)[0]? = some (.int k a) := by rw [ev]; rfl
      rw [List.getElem?_drop] at this
      rw [Nat.mul_one]
      simpa using this
    have gy : ys'.toArray[i * 1]? = some (.int k b) := by
      have : (ys'.drop i)[0]? = some (.int k b) := by rw [eu]; rfl
      rw [List.getElem?_drop] at this
      rw [Nat.mul_one]
      simpa using this
    have dx : xs'.drop (i + 1) = vs := by
      have : (xs'.drop i).drop 1 = vs := by rw [ev]; rfl
      rw [List.drop_drop] at this
      exact this
    have dy : ys'.drop (i + 1) = us := by
      have : (ys'.drop i).drop 1 = us := by rw [eu]; rfl
      rw [List.drop_drop] at this
      exact this
    rw [List.range'_succ, Op.eqItems]
    simp only [Sem.run_bind, part_at hu gx, part_at hu gy, run_equalIn_int w d e k k0 a b hu, Result.andThen_ok]
    by_cases hab : a = b
    · subst hab
      rw [if_pos rfl] at he
      have := eqItems_ok d hu w m (i + 1) xs ys r he (by simpa using hx) (by simpa using hy) (by rw [dx]; exact e2) (by rw [dy]; exact e4)
      simpa using this
    · rw [if_neg hab, Option.map_eq_some_iff] at he
      obtain ⟨_, _, rfl⟩ := he
      simp [hab]

theorem eqOk_array {P : Program} {t e : TypeId} {k0 : IntKind} {n : Nat} (hu : P.underlying t = some (.array n e)) (hg : P.eqGuardType P.depth t = false) (he : P.underlying e = some (.int k0)) (hi0 : (P.info? e).isSome = true) (hc : P.cellsOf e = 1) : EqOk P t n := by
  obtain ⟨f, hi⟩ := Option.isSome_iff_exists.1 hi0
  refine ⟨fun xs ys hx hy r hq ρ xs' ys' vx vy w => ?_, hg⟩
  show (Op.equalIn 10000 t _ _).run P w = _
  rw [run_equalIn_array w 9999 _ _ hu hi, hc, List.range_eq_range']
  exact eqItems_ok 9998 he w n 0 xs ys r hq hx hy (by simpa using vx) (by simpa using vy)

def keyFields (b : Bool) (d : Nat) (cs : Array Value) : List Field → Sem Unit
  | [] => pure ()
  | f :: fs => do
    if f.name ≠ "_" then Instr.checkKey b d f.type (← part f.type cs f.offset)
    keyFields b d cs fs

theorem keyFields_ok {P : Program} {b : Bool} (d : Nat) {ρ : Ren} {xs' : List Value} (w : World) : ∀ (fs : List Field) (i : Nat) (xs : List IV), fieldsB P fs i = true → (xs.all fun x => match x with | .int .i64 _ => true | _ => false) = true → xs.length = fs.length →
    VRs ρ xs (xs'.drop i) → (keyFields b (d + 1) xs'.toArray fs).run P w = .ok () w
  | [], i, xs, hf, he, hx, vx => by simp [keyFields]
  | f :: fs, i, xs, hf, he, hx, vx => by
    simp only [fieldsB, Bool.and_eq_true] at hf
    obtain ⟨⟨⟨h1, h2⟩, h3⟩, h4⟩ := hf
    have hoff := Nat.eq_of_beq_eq_true h2
    have hname : f.name ≠ "_" := by simpa using h1
    have hu : ∃ k, P.underlying f.type = some (.int k) := by
      split at h3
      · exact ⟨_, by assumption⟩
      · cases h3
    obtain ⟨k0, hu⟩ := hu
    rcases xs with _ | ⟨x, xs⟩
    · simp at hx
    simp only [List.all_cons, Bool.and_eq_true] at he
    obtain ⟨he1, he2⟩ := he
    split at he1 <;> (try cases he1)
    rename_i a
    simp only [VRs] at vx
    obtain ⟨v, vs, ev, e1, e2⟩ := vx
    simp only [VR] at e1
    subst e1
    have gx : xs'.toArray[f.offset]? = some (.int .i64 a) := by
      have : (xs'.drop i)[0]? = some (.int .i64 a) := by rw [ev]; rfl
      rw [List.getElem?_drop] at this
      rw [hoff]
      simpa using this
    have dx : xs'.drop (i + 1) = vs := by
      have : (xs'.drop i).drop 1 = vs := by rw [ev]; rfl
      rw [List.drop_drop] at this
      exact this
    have := keyFields_ok (b := b) d w fs (i + 1) xs h4 he2 (by simpa using hx) (by rw [dx]; exact e2)
    rw [keyFields]
    simp only [if_pos hname, Sem.run_bind, part_at hu gx, Result.andThen_ok]
    simp [Instr.checkKey, run_underlying hu, this]

theorem keyOk_struct {P : Program} {t : TypeId} {fs : Array Field} {n : Nat} (hu : P.underlying t = some (.struct fs)) (hf : fieldsB P fs.toList 0 = true) (hn : fs.toList.length = n) (he : EqOk P t n) : KeyOk P t n := by
  refine ⟨he, fun b k hk ρ k' hv w => ?_⟩
  unfold keyShape at hk
  split at hk <;> (try cases hk)
  rename_i cs
  simp only [Bool.and_eq_true, beq_iff_eq] at hk
  simp only [VR] at hv
  obtain ⟨l, rfl, hl⟩ := hv
  have h := keyFields_ok (P := P) (b := b) 9998 (ρ := ρ) (xs' := l) w fs.toList 0 cs hf hk.2 (by omega) (by simpa using hl)
  rw [Instr.checkKey]
  simp only [Sem.run_bind, run_underlying hu, Result.andThen_ok]
  rw [← h, ← Array.forIn_toList]
  generalize fs.toList = gs
  clear h hf hn hu
  induction gs generalizing w with
  | nil => simp [keyFields]
  | cons f gs ih =>
    simp only [List.forIn_cons, keyFields, Sem.run_bind, Sem.run_ite]
    split
    · generalize (part f.type l.toArray f.offset).run P w = r1
      cases r1 with
      | ok a w1 =>
        simp only [Result.andThen_ok]
        generalize (Instr.checkKey b 9999 f.type a).run P w1 = r2
        cases r2 with
        | ok u w2 =>
          simp only [Result.andThen_ok, Sem.run_pure]
          exact ih w2
        | halt x w2 => simp [Result.andThen]
      | halt x w1 => simp [Result.andThen]
    · simp only [Sem.run_pure, Result.andThen_ok]
      exact ih w

end Go.Ae
