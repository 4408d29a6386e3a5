/-
  What is known of a region beforehand, shown by a check.
-/
import Derived.Test.YtkilagbpemchpaaGreatAeDraw3
set_option linter.unusedVariables false
set_option linter.unusedSimpArgs false
namespace Go.Ae
open Go Go.RowKit

structure RI where
  ord : List Nat
  mask : List Nat
  chk : List (Nat × List Nat)

def ancB (mask : List Nat) (k i : Nat) : Bool := (mask.getD i 0).testBit k

def nodupB : List Nat → Bool
  | [] => true
  | x :: r => !(r.contains x) && nodupB r

def distB : List (Option Nat) → Bool
  | [] => true
  | none :: r => distB r
  | some d :: r => !(r.contains (some d)) && distB r

def foldMask (mask : List Nat) : List Edge → Nat
  | [] => 0
  | e :: r => if Region.binds .any e then Nat.lor (Nat.lor (2 ^ e.on) (mask.getD e.on 0)) (foldMask mask r) else foldMask mask r

def whoB (t : Nat) : List Oper → Nat → Option Nat
  | [], _ => none
  | o :: r, k => match o.dst with
    | some d => if d == t then some k else whoB t r (k + 1)
    | none => whoB t r (k + 1)

def isE (T : Tabs) (o : Oper) : Bool := match clsOf T o with | .E => true | _ => false
def isEA (T : Tabs) (o : Oper) : Bool := match clsOf T o with | .E => true | .A => true | _ => false
def isLA (T : Tabs) (o : Oper) : Bool := match clsOf T o with | .L => true | .A => true | _ => false

def eachAt (ops : List Oper) (ord : List Nat) (f : Nat → Nat → Oper → Bool) : Bool :=
  (List.range ord.length).all fun q => match ord[q]? with
    | some i => match ops[i]? with
      | some o => f q i o
      | none => false
    | none => false

def eachOp (f : Nat → Oper → Bool) : List Oper → Nat → Bool
  | [], _ => true
  | o :: r, k => f k o && eachOp f r (k + 1)

def tmpsOk (f : Nat → Bool) : List Operand → Bool
  | [] => true
  | .tmp t :: r => f t && tmpsOk f r
  | _ :: r => tmpsOk f r

def regOK (T : Tabs) (N : Nat) (ops : List Oper) (ri : RI) : Bool :=
  ((List.range ops.length).all fun i => ri.ord.contains i) && nodupB ri.ord && distB (ops.map (·.dst)) &&
  eachOp (fun i o => (match o.dst with | some d => Nat.blt d N | none => true) && Nat.beq (ri.mask.getD i 0) (foldMask ri.mask o.after.toList) &&
    tmpsOk (fun t => match whoB t ops 0 with | some k => ancB ri.mask k i || ancB ri.mask i k | none => true) o.op.operands.toList &&
    (match o.guard with | some (j, _) => ancB ri.mask j i | none => true)) ops 0 &&
  eachAt ops ri.ord (fun q i o => (o.after.toList.all fun e => !(Region.binds .any e) || (ri.ord.take q).contains e.on) &&
    (!(isE T o) || eachAt ops ri.ord fun q' i' o' => !(Nat.blt q q') || !(isEA T o') || ancB ri.mask i i') &&
    (!(isLA T o) || ri.chk.any fun x => Nat.beq x.1 q && eachAt ops ri.ord fun j i' o' => !(isE T o') || ancB ri.mask i i' || ancB ri.mask i' i || x.2.contains j))

theorem isE_iff {T : Tabs} {o : Oper} (h : clsOf T o = .E) : isE T o = true := by unfold isE; rw [h]
theorem isEA_iff {T : Tabs} {o : Oper} (h : clsOf T o = .E ∨ clsOf T o = .A) : isEA T o = true := by unfold isEA; rcases h with h | h <;> rw [h]
theorem isLA_iff {T : Tabs} {o : Oper} (h : clsOf T o = .L ∨ clsOf T o = .A) : isLA T o = true := by unfold isLA; rcases h with h | h <;> rw [h]

theorem nodupB_inj : ∀ {l : List Nat}, nodupB l = true → ∀ (q p i : Nat), l[q]? = some i → l[p]? = some i → q = p
  | [], _, q, p, i, h, _ => by simp at h
  | x :: r, hn, q, p, i, hq, hp => by
    simp only [nodupB, Bool.and_eq_true, Bool.not_eq_true', List.contains_eq_mem, decide_eq_false_iff_not] at hn
    cases q <;> cases p
    · rfl
    · simp only [List.getElem?_cons_zero, Option.some.injEq, List.getElem?_cons_succ] at hq hp
      exact absurd (List.mem_of_getElem? hp) (hq ▸ hn.1)
    · simp only [List.getElem?_cons_zero, Option.some.injEq, List.getElem?_cons_succ] at hq hp
      exact absurd (List.mem_of_getElem? hq) (hp ▸ hn.1)
    · simp only [List.getElem?_cons_succ] at hq hp
      rw [nodupB_inj hn.2 _ _ _ hq hp]

theorem distB_inj : ∀ {l : List (Option Nat)}, distB l = true → ∀ (q p d : Nat), l[q]? = some (some d) → l[p]? = some (some d) → q = p
  | [], _, q, p, i, h, _ => by simp at h
  | none :: r, hn, q, p, i, hq, hp => by
    simp only [distB] at hn
    cases q <;> cases p
    · rfl
    · simp at hq
    · simp at hp
    · simp only [List.getElem?_cons_succ] at hq hp
      rw [distB_inj hn _ _ _ hq hp]
  | some x :: r, hn, q, p, i, hq, hp => by
    simp only [distB, Bool.and_eq_true, Bool.not_eq_true', List.contains_eq_mem, decide_eq_false_iff_not] at hn
    cases q <;> cases p
    · rfl
    · simp only [List.getElem?_cons_zero, Option.some.injEq, List.getElem?_cons_succ] at hq hp
      exact absurd (List.mem_of_getElem? hp) (hq ▸ hn.1)
    · simp only [List.getElem?_cons_zero, Option.some.injEq, List.getElem?_cons_succ] at hq hp
      exact absurd (List.mem_of_getElem? hq) (hp ▸ hn.1)
    · simp only [List.getElem?_cons_succ] at hq hp
      rw [distB_inj hn.2 _ _ _ hq hp]

theorem foldMask_spec {mask : List Nat} {k : Nat} : ∀ {l : List Edge}, (foldMask mask l).testBit k = true → ∃ e ∈ l, Region.binds .any e = true ∧ (e.on = k ∨ ancB mask k e.on = true)
  | [], h => by simp [foldMask] at h
  | e :: r, h => by
    simp only [foldMask] at h
    split at h
    · rename_i hb
      have h' : ((2 ^ e.on ||| mask.getD e.on 0) ||| foldMask mask r).testBit k = true := h
      rw [Nat.testBit_or, Nat.testBit_or, Bool.or_eq_true, Bool.or_eq_true] at h'
      rcases h' with (h' | h') | h'
      · rw [Nat.testBit_two_pow] at h'
        exact ⟨e, by simp, hb, .inl (by simpa using h')⟩
      · exact ⟨e, by simp, hb, .inr h'⟩
      · obtain ⟨e', h1, h2⟩ := foldMask_spec h'
        exact ⟨e', List.mem_cons_of_mem _ h1, h2⟩
    · obtain ⟨e', h1, h2⟩ := foldMask_spec h
      exact ⟨e', List.mem_cons_of_mem _ h1, h2⟩

theorem whoB_spec {t : Nat} : ∀ {l : List Oper} {k0 j : Nat} {o : Oper}, l[j]? = some o → o.dst = some t → ∃ j' o', whoB t l k0 = some (k0 + j') ∧ l[j']? = some o' ∧ o'.dst = some t
  | [], k0, j, o, h, _ => by simp at h
  | x :: r, k0, j, o, h, hd => by
    simp only [whoB]
    cases hx : x.dst with
    | none =>
      simp only
      cases j with
      | zero => simp at h; subst h; rw [hx] at hd; cases hd
      | succ j =>
        obtain ⟨j', o', h1, h2, h3⟩ := whoB_spec (k0 := k0 + 1) (by simpa using h) hd
        exact ⟨j' + 1, o', by rw [h1]; congr 1; omega, by simpa using h2, h3⟩
    | some d =>
      simp only
      by_cases e : d = t
      · subst e
        exact ⟨0, x, by simp, rfl, hx⟩
      · rw [if_neg (by simpa using e)]
        cases j with
        | zero => simp at h; subst h; rw [hx] at hd; injection hd with hd; exact absurd hd e
        | succ j =>
          obtain ⟨j', o', h1, h2, h3⟩ := whoB_spec (k0 := k0 + 1) (by simpa using h) hd
          exact ⟨j' + 1, o', by rw [h1]; congr 1; omega, by simpa using h2, h3⟩

theorem eachAt_spec {ops : List Oper} {ord : List Nat} {f : Nat → Nat → Oper → Bool} (h : eachAt ops ord f = true) {q i : Nat} {o : Oper} (hq : ord[q]? = some i) (ho : ops[i]? = some o) : f q i o = true := by
  unfold eachAt at h
  have hl : q < ord.length := by
    rcases Nat.lt_or_ge q ord.length with h | h
    · exact h
    · rw [List.getElem?_eq_none h] at hq; cases hq
  have := List.all_eq_true.1 h q (List.mem_range.2 hl)
  simpa only [hq, ho] using this

theorem eachAt_some {ops : List Oper} {ord : List Nat} {f : Nat → Nat → Oper → Bool} (h : eachAt ops ord f = true) {q i : Nat} (hq : ord[q]? = some i) : i < ops.length := by
  unfold eachAt at h
  have hl : q < ord.length := by
    rcases Nat.lt_or_ge q ord.length with h | h
    · exact h
    · rw [List.getElem?_eq_none h] at hq; cases hq
  have := List.all_eq_true.1 h q (List.mem_range.2 hl)
  simp only [hq] at this
  rcases Nat.lt_or_ge i ops.length with h | h
  · exact h
  · rw [List.getElem?_eq_none h] at this; cases this

theorem eachOp_spec {f : Nat → Oper → Bool} : ∀ {l : List Oper} {k i : Nat} {o : Oper}, eachOp f l k = true → l[i]? = some o → f (k + i) o = true
  | [], k, i, o, _, h => by simp at h
  | x :: r, k, i, o, hf, h => by
    simp only [eachOp, Bool.and_eq_true] at hf
    cases i with
    | zero => simp at h; subst h; exact hf.1
    | succ i =>
      have := eachOp_spec hf.2 (i := i) (o := o) (by simpa using h)
      rw [show k + (i + 1) = k + 1 + i by omega]
      exact this

theorem tmpsOk_spec {f : Nat → Bool} {t : Nat} : ∀ {l : List Operand}, tmpsOk f l = true → Operand.tmp t ∈ l → f t = true
  | [], _, h => by cases h
  | x :: r, hf, h => by
    rcases List.mem_cons.1 h with e | e
    · subst e
      simp only [tmpsOk, Bool.and_eq_true] at hf
      exact hf.1
    · cases x <;> simp only [tmpsOk, Bool.and_eq_true] at hf <;> first | exact tmpsOk_spec hf.2 e | exact tmpsOk_spec hf e

theorem regOK_spec {T : Tabs} {N : Nat} {ops : Array Oper} {ri : RI} (h : regOK T N ops.toList ri = true) : RF T N ops ri.ord (ancB ri.mask) ri.chk := by
  unfold regOK at h
  simp only [Bool.and_eq_true] at h
  obtain ⟨⟨⟨⟨h1, h2⟩, h3⟩, h4⟩, h5⟩ := h
  have hl : ∀ {i : Nat} {o : Oper}, ops[i]? = some o → ops.toList[i]? = some o := fun h => by rw [Array.getElem?_toList]; exact h
  have hdm : ∀ {i : Nat} {d : Tmp}, dstOf ops i = some d → ∃ o, ops[i]? = some o ∧ o.dst = some d := fun {i d} h => by
    unfold dstOf at h
    cases e : ops[i]? with
    | none => rw [e] at h; cases h
    | some o => rw [e] at h; exact ⟨o, rfl, h⟩
  have hdl : ∀ {i : Nat} {d : Tmp}, dstOf ops i = some d → (ops.toList.map (·.dst))[i]? = some (some d) := fun {i d} h => by
    obtain ⟨o, h1, h2⟩ := hdm h
    rw [List.getElem?_map, hl h1, Option.map_some, h2]
  have hdist : ∀ (i j : Nat) d, dstOf ops i = some d → dstOf ops j = some d → i = j := fun i j d a b => distB_inj h3 i j d (hdl a) (hdl b)
  have hone : ∀ {i : Nat} {o : Oper}, ops[i]? = some o → _ := fun {i o} h => eachOp_spec h4 (hl h)
  simp only [Nat.zero_add, Bool.and_eq_true] at hone
  have hat : ∀ {q i : Nat} {o : Oper}, ri.ord[q]? = some i → ops[i]? = some o → _ := fun {q i o} hq h => eachAt_spec h5 hq (hl h)
  simp only [Bool.and_eq_true] at hat
  refine ⟨fun i hi => ?_, nodupB_inj h2, fun q i hq => by simpa using eachAt_some h5 hq, hdist, fun i d hd => ?_, fun i o k ho ha => ?_, fun p i o e hp ho he hb => ?_, fun i o t k ho ht hk => ?_, fun i o j b ho hg => ?_,
    fun q q' i i' o o' hlt hq hq' ho ho' hc hc' => ?_, fun q i o hq ho hc => ?_⟩
  · have := List.all_eq_true.1 h1 i (List.mem_range.2 (by simpa using hi))
    rw [List.contains_eq_mem, decide_eq_true_eq] at this
    exact List.mem_iff_getElem?.1 this
  · obtain ⟨o, ho, e⟩ := hdm hd
    have := (hone ho).1.1.1
    rw [e] at this
    simp only [Nat.blt_eq] at this
    exact this
  · have := (hone ho).1.1.2
    have := Nat.eq_of_beq_eq_true this
    unfold ancB at ha
    rw [this] at ha
    obtain ⟨e, h1, h2⟩ := foldMask_spec ha
    exact ⟨e, by simpa using h1, h2⟩
  · have := List.all_eq_true.1 (hat hp ho).1.1 e (by simpa using he)
    rw [hb] at this
    simp only [Bool.not_true, Bool.false_or, List.contains_eq_mem, decide_eq_true_eq] at this
    obtain ⟨q, hq⟩ := List.mem_iff_getElem?.1 this
    rw [List.getElem?_take] at hq
    split at hq
    · exact ⟨q, by assumption, hq⟩
    · cases hq
  · have hh := tmpsOk_spec (hone ho).1.2 (t := t) (by simpa using ht)
    obtain ⟨ok, hok, e⟩ := hdm hk
    obtain ⟨j', o', w1, w2, w3⟩ := whoB_spec (k0 := 0) (hl hok) e
    rw [w1] at hh
    simp only [Nat.zero_add] at hh
    have : j' = k := hdist j' k t (by rw [Array.getElem?_toList] at w2; simp [dstOf, w2, w3]) hk
    rw [← this]
    rw [Bool.or_eq_true] at hh
    exact hh
  · have := (hone ho).2
    rw [hg] at this
    exact this
  · have := (hat hq ho).1.2
    rw [isE_iff hc] at this
    simp only [Bool.not_true, Bool.false_or] at this
    have := eachAt_spec this hq' (hl ho')
    have hb : Nat.blt q q' = true := by rw [Nat.blt_eq]; exact hlt
    rw [hb, isEA_iff hc'] at this
    simpa using this
  · have := (hat hq ho).2
    rw [isLA_iff hc] at this
    simp only [Bool.not_true, Bool.false_or] at this
    obtain ⟨x, hx, hy⟩ := List.any_eq_true.1 this
    simp only [Bool.and_eq_true] at hy
    have e := Nat.eq_of_beq_eq_true hy.1
    refine ⟨x.2, by rw [← e]; exact hx, fun j i' o' g1 g2 g3 g4 g5 => ?_⟩
    have := eachAt_spec hy.2 g1 (hl g2)
    rw [isE_iff g3, g4, g5] at this
    simpa using this

end Go.Ae
