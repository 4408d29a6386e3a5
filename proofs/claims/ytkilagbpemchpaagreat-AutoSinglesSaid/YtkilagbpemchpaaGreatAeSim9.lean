/-
  The operations on the ideal heap are the machine's: maps.
-/
import Derived.Test.YtkilagbpemchpaaGreatAeSim8
set_option linter.unusedVariables false
set_option linter.unusedSimpArgs false
namespace Go.Ae
open Go Go.RowKit

section
variable {P : Program} {T : Tabs} {fr : Tr IV} {o : Oper} {h : IH} {ρ : Ren} {B : Nat} {a : Act} {w : World}

theorem ERs.length : ∀ {es : List (IV × IV × Nat)} {l : List MapEntry}, ERs ρ es l → l.length = es.length
  | [], l, h => by simp only [ERs] at h; subst h; rfl
  | x :: xs, l, h => by simp only [ERs] at h; obtain ⟨y, ys, rfl, _, _, _, h4⟩ := h; simp [ERs.length h4]

theorem ERs.get : ∀ {es : List (IV × IV × Nat)} {l : List MapEntry}, ERs ρ es l → ∀ (i : Nat) x, es[i]? = some x → ∃ y, l[i]? = some y ∧ VR ρ x.1 y.key ∧ VR ρ x.2.1 y.val ∧ x.2.2 = y.born
  | [], l, h, i, x, hx => by simp at hx
  | z :: zs, l, h, i, x, hx => by
    simp only [ERs] at h
    obtain ⟨y, ys, rfl, h1, h2, h3, h4⟩ := h
    cases i with
    | zero => simp at hx; subst hx; exact ⟨y, rfl, h1, h2, h3⟩
    | succ i => simp at hx; obtain ⟨u, hu, r⟩ := h4.get i x hx; exact ⟨u, by simpa using hu, r⟩

theorem ERs.snoc : ∀ {es : List (IV × IV × Nat)} {l : List MapEntry} {x : IV × IV × Nat} {y : MapEntry}, ERs ρ es l → VR ρ x.1 y.key → VR ρ x.2.1 y.val → x.2.2 = y.born → ERs ρ (es ++ [x]) (l ++ [y])
  | [], l, x, y, h, h1, h2, h3 => by simp only [ERs] at h; subst h; exact ⟨y, [], rfl, h1, h2, h3, rfl⟩
  | z :: zs, l, x, y, h, h1, h2, h3 => by
    simp only [ERs] at h
    obtain ⟨u, us, rfl, g1, g2, g3, g4⟩ := h
    exact ⟨u, us ++ [y], rfl, g1, g2, g3, g4.snoc h1 h2 h3⟩

theorem ERs.modify : ∀ {es : List (IV × IV × Nat)} {l : List MapEntry} (i : Nat) {f : IV × IV × Nat → IV × IV × Nat} {g : MapEntry → MapEntry}, ERs ρ es l →
    (∀ x y, es[i]? = some x → l[i]? = some y → VR ρ x.1 y.key → VR ρ x.2.1 y.val → x.2.2 = y.born → VR ρ (f x).1 (g y).key ∧ VR ρ (f x).2.1 (g y).val ∧ (f x).2.2 = (g y).born) → ERs ρ (es.modify i f) (l.modify i g)
  | [], l, i, f, g, h, k => by simp only [ERs] at h; subst h; simp [ERs]
  | z :: zs, l, i, f, g, h, k => by
    simp only [ERs] at h
    obtain ⟨u, us, rfl, g1, g2, g3, g4⟩ := h
    cases i with
    | zero =>
      obtain ⟨q1, q2, q3⟩ := k z u rfl rfl g1 g2 g3
      have e1 : (z :: zs).modify 0 f = f z :: zs := by simp
      have e2 : (u :: us).modify 0 g = g u :: us := by simp
      rw [e1, e2]
      exact ⟨g u, us, rfl, q1, q2, q3, g4⟩
    | succ i =>
      have ih := ERs.modify i g4 (f := f) (g := g) (fun x y hx hy => k x y (by simpa using hx) (by simpa using hy))
      have e1 : (z :: zs).modify (i + 1) f = z :: zs.modify i f := by simp
      have e2 : (u :: us).modify (i + 1) g = u :: us.modify i g := by simp
      rw [e1, e2]
      exact ⟨u, us.modify i g, rfl, g1, g2, g3, ih⟩

/-! ### Keys -/
theorem keyShape_agg {n : Nat} {k : IV} (h : keyShape n k = true) : ∃ cs, k = .agg cs ∧ cs.length = n ∧ ∀ x ∈ cs, ∃ m, x = .int .i64 m := by
  unfold keyShape at h
  split at h <;> (try cases h)
  rename_i cs
  simp only [Bool.and_eq_true, beq_iff_eq, List.all_eq_true] at h
  refine ⟨cs, rfl, h.1, fun x hx => ?_⟩
  have := h.2 x hx
  split at this
  · exact ⟨_, rfl⟩
  · cases this

theorem checkKey_free (b : Bool) (t : TypeId) (v : Value) (d : TypeDesc) (hd : P.underlying t = some d) (h1 : (∃ k, d = .int k) ∨ d = .string) : (Instr.checkKey b 10000 t v).run P w = .ok () w := by
  have : (10000 : Nat) = 9999 + 1 := rfl
  rw [this]
  generalize 9999 = n
  unfold Instr.checkKey
  rcases h1 with ⟨k, rfl⟩ | rfl <;> simp [run_underlying hd]

/-- What the table says of a key's type. -/
inductive KeyCase (P : Program) (T : Tabs) (kt : TypeId) (kv : IV) : Prop
  | int (k : IntKind) (j : IntKind) (n : Int) (h : P.underlying kt = some (.int k)) (e : kv = .int j n)
  | str (s : List UInt8) (h : P.underlying kt = some .string) (e : kv = .str s)
  | st (fs : Array Field) (n : Nat) (h : P.underlying kt = some (.struct fs)) (e : keyShape n kv = true) (hk : KeyOk P kt n)

theorem key_case (hT : TabsOk P T) {kt : TypeId} {kv : IV} (hk : keyI T.ty T.sk kt kv = true) : KeyCase P T kt kv := by
  unfold keyI at hk
  split at hk <;> (try cases hk)
  rename_i ti hti
  obtain ⟨d, hd, hok⟩ := (hT.ty _ _ hti).und
  split at hk <;> (try cases hk)
  · rename_i k j n hde
    rw [hde] at hok; simp only [TDok] at hok; subst hok
    exact .int k j n hd rfl
  · rename_i s hde
    rw [hde] at hok; simp only [TDok] at hok; subst hok
    exact .str s hd rfl
  · rename_i fs hde
    rw [hde] at hok; simp only [TDok] at hok
    obtain ⟨fa, rfl, _⟩ := hok
    split at hk <;> (try cases hk)
    rename_i n hn
    exact .st fa n hd hk (hT.sk _ _ hn)

theorem check_rel {kt : TypeId} {kv : IV} {k' : Value} (hc : KeyCase P T kt kv) (hr : VR ρ kv k') (b : Bool) : (Instr.checkKey b 10000 kt k').run P w = .ok () w := by
  cases hc with
  | int k j n h e => exact checkKey_free b kt k' _ h (.inl ⟨k, rfl⟩)
  | str s h e => exact checkKey_free b kt k' _ h (.inr rfl)
  | st fs n h e hk => exact hk.check b kv e ρ k' hr w

theorem VRs_ints : ∀ {cs : List IV} {l l2 : List Value}, (∀ x ∈ cs, ∃ m, x = IV.int .i64 m) → VRs ρ cs l → VRs ρ cs l2 → l = l2
  | [], l, l2, _, h, k => by simp only [VRs] at h k; rw [h, k]
  | x :: xs, l, l2, hx, h, k => by
    simp only [VRs] at h k
    obtain ⟨y, ys, rfl, h1, h2⟩ := h
    obtain ⟨z, zs, rfl, k1, k2⟩ := k
    obtain ⟨m, rfl⟩ := hx x (by simp)
    simp only [VR] at h1 k1
    rw [h1, k1, VRs_ints (fun y hy => hx y (by simp [hy])) h2 k2]

theorem eqPlain_true : ∀ {xs ys : List IV}, eqPlain xs ys = some true → xs = ys
  | [], [], _ => rfl
  | [], y :: ys, h => by cases y <;> simp [eqPlain] at h
  | x :: xs, [], h => by cases x <;> simp [eqPlain] at h
  | x :: xs, y :: ys, h => by
    cases x <;> cases y <;> simp only [eqPlain] at h <;> (try cases h)
    split at h <;> (try cases h)
    rename_i e
    subst e
    split at h
    · rename_i e; subst e; rw [eqPlain_true h]
    · simp at h

theorem keyEq_true {x y : IV} (h : keyEq x y = some true) : x = y := by
  unfold keyEq at h
  split at h <;> (try cases h)
  · split at h <;> (try cases h)
    rename_i e
    subst e
    simp at h
    rw [h]
  · simp at h; rw [h]
  · split at h <;> (try cases h)
    rw [eqPlain_true h]

/-- A key of the table's has one value alone. -/
theorem key_one {kt : TypeId} {kv : IV} (hc : KeyCase P T kt kv) {u v : Value} (hu : VR ρ kv u) (hv : VR ρ kv v) : u = v := by
  cases hc with
  | int k j n h e => subst e; simp only [VR] at hu hv; rw [hu, hv]
  | str s h e => subst e; simp only [VR] at hu hv; rw [hu, hv]
  | st fs n h e hk =>
    obtain ⟨cs, rfl, _, hi⟩ := keyShape_agg e
    simp only [VR] at hu hv
    obtain ⟨l, rfl, h1⟩ := hu
    obtain ⟨l2, rfl, h2⟩ := hv
    rw [VRs_ints hi h1 h2]

theorem same_one {kt : TypeId} {kv : IV} (hc : KeyCase P T kt kv) {u : Value} (hu : VR ρ kv u) : Instr.sameBits 10000 u u = true := by
  have e0 : (10000 : Nat) = 9999 + 1 := rfl
  rw [e0]
  generalize 9999 = d
  cases hc with
  | int k j n h e => subst e; simp only [VR] at hu; subst hu; simp [Instr.sameBits]
  | str s h e =>
    subst e; simp only [VR] at hu; subst hu
    show (s.toArray == s.toArray) = true
    simp
  | st fs n h e hk =>
    obtain ⟨cs, rfl, _, hi⟩ := keyShape_agg e
    simp only [VR] at hu
    obtain ⟨l, rfl, h1⟩ := hu
    have : ∀ (cs : List IV) (l : List Value), (∀ x ∈ cs, ∃ m, x = IV.int .i64 m) → VRs ρ cs l → (l.zip l).all (fun (x, y) => Instr.sameBits d x y) = true := by
      intro cs
      induction cs with
      | nil => intro l _ h; simp only [VRs] at h; subst h; rfl
      | cons x xs ih =>
        intro l hx h
        simp only [VRs] at h
        obtain ⟨y, ys, rfl, h1, h2⟩ := h
        obtain ⟨m, rfl⟩ := hx x (by simp)
        simp only [VR] at h1
        subst h1
        simp only [List.zip_cons_cons, List.all_cons, Bool.and_eq_true]
        refine ⟨?_, ih ys (fun z hz => hx z (by simp [hz])) h2⟩
        cases d <;> simp [Instr.sameBits]
    simp only [Instr.sameBits, beq_self_eq_true, Bool.true_and]
    exact this cs l hi h1

def FindRel (ρ : Ren) : Option (Nat × IV) → Option (Nat × Value) → Prop
  | none, x => x = none
  | some (i, v), x => ∃ v', x = some (i, v') ∧ VR ρ v v'

theorem find_rel (hT : TabsOk P T) {kt : TypeId} {kv : IV} {k' : Value} (hc : KeyCase P T kt kv) (hr : VR ρ kv k') : ∀ {es : List (IV × IV × Nat)} {es' : List MapEntry} {r : Option (Nat × IV)}, ERs ρ es es' → findI kv es 0 = some r →
    ∃ r', (Instr.findKey kt k' es').run P w = .ok r' w ∧ FindRel ρ r r' := by
  have now : ∀ (d : TypeDesc), (∀ x y b, VR ρ x y → keyEq kv x = some b → Instr.sameNow d k' y = some b) → ∀ (es : List (IV × IV × Nat)) (es' : List MapEntry) (i : Nat) (r : Option (Nat × IV)), ERs ρ es es' → findI kv es i = some r → ∃ r', Instr.findNow d k' es' i = some r' ∧ FindRel ρ r r' := by
    intro d hs es
    induction es with
    | nil => intro es' i r he hf; simp only [ERs] at he; subst he; simp only [findI, Option.some.injEq] at hf; subst hf; exact ⟨none, rfl, rfl⟩
    | cons x xs ih =>
      intro es' i r he hf
      simp only [ERs] at he
      obtain ⟨y, ys, rfl, g1, g2, g3, g4⟩ := he
      simp only [findI] at hf
      split at hf <;> (try cases hf)
      · rename_i hq
        exact ⟨some (i, y.val), by simp [Instr.findNow, hs _ _ _ g1 hq], y.val, rfl, g2⟩
      · rename_i hq
        obtain ⟨r', q1, q2⟩ := ih ys (i + 1) r g4 hf
        exact ⟨r', by simp [Instr.findNow, hs _ _ _ g1 hq, q1], q2⟩
  intro es es' r he hf
  cases hc with
  | int k j n h e =>
    subst e
    simp only [VR] at hr
    subst hr
    obtain ⟨r', q1, q2⟩ := now (.int k) (by
      intro x y b hxy hq
      cases x <;> simp only [keyEq] at hq <;> (try cases hq)
      split at hq <;> (try cases hq)
      rename_i e
      subst e
      simp only [VR] at hxy
      subst hxy
      simp [Instr.sameNow]) es es' 0 r he hf
    exact ⟨r', by simp [Instr.findKey, run_underlying h, q1], q2⟩
  | str s h e =>
    subst e
    simp only [VR] at hr
    subst hr
    obtain ⟨r', q1, q2⟩ := now .string (by
      intro x y b hxy hq
      cases x <;> simp only [keyEq] at hq <;> (try cases hq)
      rename_i b1
      simp only [VR] at hxy
      subst hxy
      show some (s.toArray == b1.toArray) = some (s == b1)
      rw [List.beq_toArray]) es es' 0 r he hf
    exact ⟨r', by simp [Instr.findKey, run_underlying h, q1], q2⟩
  | st fs n h e hk =>
    obtain ⟨cs, rfl, hlen, hi⟩ := keyShape_agg e
    simp only [VR] at hr
    obtain ⟨cs', rfl, hcs⟩ := hr
    have asking : ∀ (es : List (IV × IV × Nat)) (es' : List MapEntry) (i : Nat) (r : Option (Nat × IV)), ERs ρ es es' → findI (.agg cs) es i = some r → ∃ r', (Instr.findAsking kt (.agg cs'.toArray) es' i).run P w = .ok r' w ∧ FindRel ρ r r' := by
      intro es
      induction es with
      | nil => intro es' i r he hf; simp only [ERs] at he; subst he; simp only [findI, Option.some.injEq] at hf; subst hf; exact ⟨none, by simp [Instr.findAsking], rfl⟩
      | cons x xs ih =>
        intro es' i r he hf
        simp only [ERs] at he
        obtain ⟨y, ys, rfl, g1, g2, g3, g4⟩ := he
        have heq : ∀ b, keyEq (.agg cs) x.1 = some b → (Op.equal kt (.agg cs'.toArray) y.key).run P w = .ok b w := by
          intro b hb
          cases hx1 : x.1 <;> rw [hx1] at hb <;> simp only [keyEq] at hb <;> (try cases hb)
          split at hb <;> (try cases hb)
          rename_i hl
          rw [hx1] at g1
          simp only [VR] at g1
          obtain ⟨yl, hy, hyr⟩ := g1
          rw [hy]
          exact hk.eq.eq _ _ hlen (by omega) b hb ρ cs' yl hcs hyr w
        simp only [findI] at hf
        split at hf <;> (try cases hf)
        · rename_i hq
          exact ⟨some (i, y.val), by simp [Instr.findAsking, heq _ hq], y.val, rfl, g2⟩
        · rename_i hq
          obtain ⟨r', q1, q2⟩ := ih ys (i + 1) r g4 hf
          exact ⟨r', by simp [Instr.findAsking, heq _ hq, q1], q2⟩
    cases es with
    | nil =>
      simp only [ERs] at he; subst he
      simp only [findI, Option.some.injEq] at hf; subst hf
      exact ⟨none, by simp [Instr.findKey, run_underlying h, Instr.findNow], rfl⟩
    | cons x xs =>
      obtain ⟨r', q1, q2⟩ := asking _ _ 0 r he hf
      refine ⟨r', ?_, q2⟩
      simp only [ERs] at he
      obtain ⟨y, ys, rfl, g1, g2, g3, g4⟩ := he
      have hn : Instr.findNow (.struct fs) (.agg cs'.toArray) (y :: ys) 0 = none := by simp [Instr.findNow, Instr.sameNow]
      simp [Instr.findKey, run_underlying h, hn, q1]

end
end Go.Ae
