/-
  The executor: operations in a row, code, calls.
-/
import Derived.Test.YtkilagbpemchpaaGreatAeSimA
set_option linter.unusedVariables false
set_option linter.unusedSimpArgs false
namespace Go.Ae
open Go Go.RowKit

def putI (N : Nat) (fr : Tr IV) (dst : Option Tmp) (x : Option IV) : Option (Tr IV) :=
  match dst with
  | none => some fr
  | some d => if d < N then some (fr.put d x) else none

/-- A caller's view of calls. -/
abbrev CallF := FuncId → List IV → IH → Side → Option (IV × IH × Side)

def yieldI (ops : Array Oper) (fr : Tr IV) (j : Nat) : Option Bool :=
  match (ops[j]?).bind (·.dst) with
  | none => none
  | some d => match fr.get d with
    | some (.bool b) => some b
    | _ => none

def stepOp (T : Tabs) (call : CallF) (N : Nat) (fr : Tr IV) (o : Oper) (h : IH) (s : Side) : Option (Tr IV × IH × Side) :=
  match iop T fr o h with
  | some (.val v h1) => match putI N fr o.dst (some v) with
    | some fr1 => some (fr1, h1, s)
    | none => none
  | some (.skip h1) => match putI N fr o.dst none with
    | some fr1 => some (fr1, h1, s)
    | none => none
  | some (.call f args h1) => match call f args h1 s with
    | some (v, h2, s2) => match putI N fr o.dst (some v) with
      | some fr1 => some (fr1, h2, s2)
      | none => none
    | none => none
  | none => none

def oneOp (T : Tabs) (call : CallF) (N : Nat) (ops : Array Oper) (fr : Tr IV) (o : Oper) (h : IH) (s : Side) : Option (Tr IV × IH × Side) :=
  if Region.wanted o (yieldI ops fr) then stepOp T call N fr o h s
  else match putI N fr o.dst none with
    | some fr1 => some (fr1, h, s)
    | none => none

def runOps (T : Tabs) (call : CallF) (N : Nat) (ops : Array Oper) : List Oper → Tr IV → IH → Side → Option (Tr IV × IH × Side)
  | [], fr, h, s => some (fr, h, s)
  | o :: rest, fr, h, s => match oneOp T call N ops fr o h s with
    | some (fr1, h1, s1) => runOps T call N ops rest fr1 h1 s1
    | none => none

/-- The frame: an empty slot holds nothing. -/
structure FR2 (ρ : Ren) (N : Nat) (fr : Tr IV) (a : Act) : Prop where
  size : a.tmps.size = N
  has : ∀ t v, fr.get t = some v → ∃ v', a.tmps[t]? = some v' ∧ VR ρ v v'
  lacks : ∀ t, fr.get t = none → t < N → a.tmps[t]? = some undef
  defers : a.defers = []

theorem FR2.fr {ρ : Ren} {N : Nat} {fr : Tr IV} {a : Act} (h : FR2 ρ N fr a) : FR ρ fr a := h.has

theorem FR2.mono {ρ ρ' : Ren} (h : ρ.le ρ') {N : Nat} {fr : Tr IV} {a : Act} (k : FR2 ρ N fr a) : FR2 ρ' N fr a :=
  ⟨k.size, fun t v ht => by obtain ⟨v', e, r⟩ := k.has t v ht; exact ⟨v', e, VR.mono h _ _ r⟩, k.lacks, k.defers⟩

def OV (ρ : Ren) : Option IV → Value → Prop
  | some y, v => VR ρ y v
  | none, v => v = undef

theorem FR2.put {ρ : Ren} {N : Nat} {fr fr1 : Tr IV} {a : Act} (k : FR2 ρ N fr a) {dst : Option Tmp} {x : Option IV} {v : Value} (hp : putI N fr dst x = some fr1)
    (hv : OV ρ x v) : FR2 ρ N fr1 (a.put dst v) := by
  cases dst with
  | none => simp only [putI, Option.some.injEq] at hp; subst hp; exact k
  | some d =>
    simp only [putI] at hp
    by_cases hd : d < N
    · rw [if_pos hd] at hp
      injection hp with hp
      subst hp
      have hd' : d < a.tmps.size := by rw [k.size]; exact hd
      refine ⟨by simp [Act.put, k.size], fun t y ht => ?_, fun t ht hlt => ?_, k.defers⟩
      · rw [Tr.get_put] at ht
        by_cases e : t = d
        · subst e
          rw [if_pos rfl] at ht
          subst ht
          exact ⟨v, by simp [Act.put, hd'], hv⟩
        · rw [if_neg e] at ht
          obtain ⟨v', h1, h2⟩ := k.has t y ht
          exact ⟨v', by simp only [Act.put]; rw [Array.getElem?_setIfInBounds_ne (fun q => e q.symm)]; exact h1, h2⟩
      · rw [Tr.get_put] at ht
        by_cases e : t = d
        · subst e
          rw [if_pos rfl] at ht
          subst ht
          simp only [OV] at hv
          subst hv
          simp [Act.put, hd']
        · rw [if_neg e] at ht
          simp only [Act.put]
          rw [Array.getElem?_setIfInBounds_ne (fun q => e q.symm)]
          exact k.lacks t ht hlt
    · rw [if_neg hd] at hp; cases hp

theorem yield_rel {ρ : Ren} {N : Nat} {fr : Tr IV} {a : Act} (k : FR2 ρ N fr a) {ops : Array Oper} (hb : ∀ o ∈ ops, ∀ d, o.dst = some d → d < N) (j : Nat) : yielded ops a.tmps j = yieldI ops fr j := by
  unfold yielded yieldI
  cases ho : ops[j]? with
  | none => rfl
  | some o =>
    simp only [Option.bind_some]
    cases hd : o.dst with
    | none => rfl
    | some d =>
      simp only [Option.bind_some]
      have hmem : o ∈ ops := Array.mem_of_getElem? ho
      have hlt := hb o hmem d hd
      cases hf : fr.get d with
      | none =>
        rw [k.lacks d hf hlt]
        rfl
      | some v =>
        obtain ⟨v', h1, h2⟩ := k.has d v hf
        rw [h1]
        cases v with
        | bool b => simp only [VR] at h2; subst h2; rfl
        | int _ _ => simp only [VR] at h2; subst h2; rfl
        | str _ => simp only [VR] at h2; subst h2; rfl
        | ptr p => cases p <;> simp only [VR] at h2 <;> (first | (subst h2; rfl) | (obtain ⟨_, _, rfl⟩ := h2; rfl))
        | slice p _ _ _ => cases p <;> simp only [VR] at h2 <;> (first | (obtain ⟨_, _, rfl⟩ := h2; rfl) | (obtain ⟨_, _, _, _, rfl, _⟩ := h2; rfl))
        | slice0 => simp only [VR] at h2; obtain ⟨_, rfl⟩ := h2; rfl
        | map p => cases p <;> simp only [VR] at h2 <;> (first | (subst h2; rfl) | (obtain ⟨_, _, rfl⟩ := h2; rfl))
        | func _ _ => simp only [VR] at h2; obtain ⟨_, rfl, _⟩ := h2; rfl
        | agg _ => simp only [VR] at h2; obtain ⟨_, rfl, _⟩ := h2; rfl
        | tuple _ => simp only [VR] at h2; obtain ⟨_, rfl, _⟩ := h2; rfl

/-- What a call does is the machine's, where all that was supposed holds. -/
def AsmOk (s : Side) : Prop := ∀ x ∈ s.asm, x.1 % x.2.1 = x.2.2

def Sound (P : Program) (call : CallF) : Prop :=
  ∀ f args h s v h1 s1, call f args h s = some (v, h1, s1) → (∃ fn, P.funcs[f]? = some fn ∧ fn.body.isNone = false ∧ (fn.name == "runtime.NumGoroutine") = false) ∧ (∃ l, s1.asm = l ++ s.asm) ∧ Ext h h1 ∧
    (AsmOk s1 → ∀ ρ B w args', VRs ρ args args' → HR ρ B h w →
      Calls P f args'.toArray w fun e w1 => ∃ v' ρ1, e = .returned v' ∧ VR ρ1 v v' ∧ Stp ρ ρ1 B h h1 w w1)

theorem AsmOk.of {s s1 : Side} (h : AsmOk s1) (e : ∃ l, s1.asm = l ++ s.asm) : AsmOk s := fun x hx => h x (by obtain ⟨l, e⟩ := e; rw [e]; exact List.mem_append_right _ hx)

theorem side_trans {s s1 s2 : Side} (a : ∃ l, s1.asm = l ++ s.asm) (b : ∃ l, s2.asm = l ++ s1.asm) : ∃ l, s2.asm = l ++ s.asm := by
  obtain ⟨l, a⟩ := a
  obtain ⟨l', b⟩ := b
  exact ⟨l' ++ l, by rw [b, a, List.append_assoc]⟩

section
variable {P : Program} {T : Tabs} {call : CallF} {N : Nat} {ops : Array Oper}

theorem stepOp_side (hS : Sound P call) {fr fr1 : Tr IV} {o : Oper} {h h1 : IH} {s s1 : Side} (hr : stepOp T call N fr o h s = some (fr1, h1, s1)) : ∃ l, s1.asm = l ++ s.asm := by
  unfold stepOp at hr
  split at hr <;> (try cases hr)
  · split at hr <;> (try cases hr)
    exact ⟨[], rfl⟩
  · split at hr <;> (try cases hr)
    exact ⟨[], rfl⟩
  · split at hr <;> (try cases hr)
    rename_i hc
    split at hr <;> (try cases hr)
    exact (hS _ _ _ _ _ _ _ hc).2.1

theorem oneOp_side (hS : Sound P call) {fr fr1 : Tr IV} {o : Oper} {h h1 : IH} {s s1 : Side} (hr : oneOp T call N ops fr o h s = some (fr1, h1, s1)) : ∃ l, s1.asm = l ++ s.asm := by
  unfold oneOp at hr
  split at hr
  · exact stepOp_side hS hr
  · split at hr <;> (try cases hr)
    exact ⟨[], rfl⟩

theorem runOps_side (hS : Sound P call) : ∀ {l : List Oper} {fr fr1 : Tr IV} {h h1 : IH} {s s1 : Side}, runOps T call N ops l fr h s = some (fr1, h1, s1) → ∃ l, s1.asm = l ++ s.asm
  | [], fr, fr1, h, h1, s, s1, hr => by simp only [runOps, Option.some.injEq, Prod.mk.injEq] at hr; obtain ⟨rfl, rfl, rfl⟩ := hr; exact ⟨[], rfl⟩
  | o :: l, fr, fr1, h, h1, s, s1, hr => by
    simp only [runOps] at hr
    split at hr <;> (try cases hr)
    rename_i h0
    exact side_trans (oneOp_side hS h0) (runOps_side hS hr)

/-- One operation that is wanted. -/
theorem step_sound (hT : TabsOk P T) (hS : Sound P call) {fr fr1 : Tr IV} {o : Oper} {h h1 : IH} {s s1 : Side} (hr : stepOp T call N fr o h s = some (fr1, h1, s1)) (hA : AsmOk s1) {ρ : Ren} {B : Nat} {a : Act} {w : World} (hf : FR2 ρ N fr a) (k : HR ρ B h w)
    {next : Act → World → Prop} {Q : Exit → Act → World → Prop} (hn : ∀ a1 w1 ρ1, FR2 ρ1 N fr1 a1 → Stp ρ ρ1 B h h1 w w1 → next a1 w1) : o.wp P a w next Q := by
  unfold stepOp at hr
  unfold Oper.wp
  split at hr <;> (try cases hr)
  · rename_i v h1' hi
    split at hr <;> (try cases hr)
    rename_i fr1' hp
    obtain ⟨v', w1, ρ1, e1, e2, e3⟩ := sim_op hT hf.fr k hi
    rw [e1, Oper.upon_value]
    exact hn _ _ ρ1 ((hf.mono e3.le).put hp e2) e3
  · rename_i h1' hi
    split at hr <;> (try cases hr)
    rename_i fr1' hp
    obtain ⟨w1, ρ1, e1, e3⟩ := sim_op hT hf.fr k hi
    rw [e1, Oper.upon_skip]
    exact hn _ _ ρ1 ((hf.mono e3.le).put hp rfl) e3
  · rename_i f args h1' hi
    split at hr <;> (try cases hr)
    rename_i v h2 s2 hc
    split at hr <;> (try cases hr)
    rename_i fr1' hp
    obtain ⟨rfl, e1⟩ := sim_op hT hf.fr k hi
    obtain ⟨⟨fn, q1, q2, q3⟩, _, _, hcs⟩ := hS _ _ _ _ _ _ _ hc
    obtain ⟨args', e2, e3⟩ := e1 fn q1 q2 q3
    rw [e2, Oper.upon_enter]
    refine (hcs hA ρ B w args' e3 k).mono fun e w1 hh => ?_
    obtain ⟨v', ρ1, rfl, g1, g2⟩ := hh
    exact hn _ _ ρ1 ((hf.mono g2.le).put hp g1) g2

theorem runOps_sound (hT : TabsOk P T) (hS : Sound P call) (hb : ∀ o ∈ ops, ∀ d, o.dst = some d → d < N) {Q : Exit → Act → World → Prop} {B : Nat} : ∀ (l : List Oper) (i : Nat), ops.toList.drop i = l → ∀ {fr fr1 : Tr IV} {h h1 : IH} {s s1 : Side}, runOps T call N ops l fr h s = some (fr1, h1, s1) → AsmOk s1 →
    ∀ {ρ : Ren} {a : Act} {w : World}, FR2 ρ N fr a → HR ρ B h w → (∀ a1 w1 ρ1, FR2 ρ1 N fr1 a1 → Stp ρ ρ1 B h h1 w w1 → Q .normal a1 w1) → wpOps P ops Q (List.range' i l.length) a w
  | [], i, hl, fr, fr1, h, h1, s, s1, hr, hA, ρ, a, w, hf, k, hq => by
    simp only [runOps, Option.some.injEq, Prod.mk.injEq] at hr
    obtain ⟨rfl, rfl, rfl⟩ := hr
    exact hq a w ρ hf (Stp.refl k)
  | o :: l, i, hl, fr, fr1, h, h1, s, s1, hr, hA, ρ, a, w, hf, k, hq => by
    simp only [runOps] at hr
    split at hr <;> (try cases hr)
    rename_i frm hm sm h0
    have hA' : AsmOk sm := hA.of (runOps_side hS hr)
    have hoi : ops[i]? = some o := by
      have : (ops.toList.drop i)[0]? = some o := by rw [hl]; rfl
      rw [List.getElem?_drop] at this
      simpa using this
    have hl' : ops.toList.drop (i + 1) = l := by
      have : (ops.toList.drop i).drop 1 = l := by rw [hl]; rfl
      rw [List.drop_drop] at this
      exact this
    rw [List.length_cons, List.range'_succ, wpOps_cons]
    unfold wpOp
    rw [hoi]
    simp only
    have hw : Region.wanted o (yielded ops a.tmps) = Region.wanted o (yieldI ops fr) := by
      congr 1
      funext j
      exact yield_rel hf hb j
    rw [hw]
    unfold oneOp at h0
    split at h0
    · rename_i hwant
      rw [if_pos hwant]
      refine .inl (step_sound hT hS h0 hA' hf k (fun a1 w1 ρ1 g1 g2 => ?_))
      exact runOps_sound hT hS hb l (i + 1) hl' hr hA g1 g2.hr (fun a2 w2 ρ2 g3 g4 => hq a2 w2 ρ2 g3 (g2.trans (fun b m hb => k.dom1 hb) g4))
    · rename_i hwant
      rw [if_neg hwant]
      split at h0 <;> (try cases h0)
      rename_i fr1' hp
      exact runOps_sound hT hS hb l (i + 1) hl' hr hA (hf.put hp rfl) k hq

end
end Go.Ae
