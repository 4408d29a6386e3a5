/-
  A region whose order is drawn: the trace in one order, and what holds of every operation of it.
-/
import Derived.Test.YtkilagbpemchpaaGreatAeCls2
import Derived.Orders
set_option linter.unusedVariables false
set_option linter.unusedSimpArgs false
namespace Go.Ae
open Go Go.RowKit

def dstOf (ops : Array Oper) (i : Nat) : Option Tmp := (ops[i]?).bind (·.dst)

def resOp (T : Tabs) (call : CallF) (fr : Tr IV) (o : Oper) (h : IH) (s : Side) : Option (Option IV × IH × Side) :=
  match iop T fr o h with
  | some (.val v h1) => some (some v, h1, s)
  | some (.skip h1) => some (none, h1, s)
  | some (.call f args h1) => match call f args h1 s with
    | some (v, h2, s2) => some (some v, h2, s2)
    | none => none
  | none => none

def resOne (T : Tabs) (call : CallF) (ops : Array Oper) (fr : Tr IV) (o : Oper) (h : IH) (s : Side) : Option (Option IV × IH × Side) :=
  if Region.wanted o (yieldI ops fr) then resOp T call fr o h s else some (none, h, s)

def runT (T : Tabs) (call : CallF) (N : Nat) (ops : Array Oper) : List Nat → Tr IV → IH → Side → Option (Tr IV × List (Tr IV × IH × Side))
  | [], fr, h, s => some (fr, [(fr, h, s)])
  | i :: rest, fr, h, s => match ops[i]? with
    | none => none
    | some o => match oneOp T call N ops fr o h s with
      | some (fr1, h1, s1) => match runT T call N ops rest fr1 h1 s1 with
        | some (fn, tl) => some (fn, (fr, h, s) :: tl)
        | none => none
      | none => none

section
variable {P : Program} {T : Tabs} {call : CallF} {N : Nat} {ops : Array Oper}

theorem stepOp_res {fr fr1 : Tr IV} {o : Oper} {h h1 : IH} {s s1 : Side} (hr : stepOp T call N fr o h s = some (fr1, h1, s1)) : ∃ R, resOp T call fr o h s = some (R, h1, s1) ∧ putI N fr o.dst R = some fr1 := by
  unfold stepOp at hr
  unfold resOp
  split at hr <;> (try cases hr)
  · split at hr <;> (try cases hr)
    rw [‹iop _ _ _ _ = _›]
    exact ⟨_, rfl, ‹putI _ _ _ _ = _›⟩
  · split at hr <;> (try cases hr)
    rw [‹iop _ _ _ _ = _›]
    exact ⟨_, rfl, ‹putI _ _ _ _ = _›⟩
  · rw [‹iop _ _ _ _ = _›]
    simp only
    split at hr <;> (try cases hr)
    split at hr <;> (try cases hr)
    rw [‹call _ _ _ _ = _›]
    exact ⟨_, rfl, ‹putI _ _ _ _ = _›⟩

theorem stepOp_of {fr fr1 : Tr IV} {o : Oper} {h h1 : IH} {s s1 : Side} {R : Option IV} (hr : resOp T call fr o h s = some (R, h1, s1)) (hp : putI N fr o.dst R = some fr1) : stepOp T call N fr o h s = some (fr1, h1, s1) := by
  unfold resOp at hr
  unfold stepOp
  split at hr <;> (try cases hr)
  · rename_i hi; rw [hi]; simp only; rw [hp]
  · rename_i hi; rw [hi]; simp only; rw [hp]
  · rename_i hi
    split at hr <;> (try cases hr)
    rename_i hc
    rw [hi]; simp only; rw [hc]; simp only; rw [hp]

theorem oneOp_res {fr fr1 : Tr IV} {o : Oper} {h h1 : IH} {s s1 : Side} (hr : oneOp T call N ops fr o h s = some (fr1, h1, s1)) : ∃ R, resOne T call ops fr o h s = some (R, h1, s1) ∧ putI N fr o.dst R = some fr1 := by
  unfold oneOp at hr
  unfold resOne
  split at hr
  · rename_i hw; rw [if_pos hw]; exact stepOp_res hr
  · rename_i hw
    rw [if_neg hw]
    split at hr <;> (try cases hr)
    rename_i hp
    exact ⟨none, rfl, hp⟩

theorem resOp_congr {fr fr' : Tr IV} {o : Oper} {h : IH} {s : Side} (he : ∀ x ∈ o.op.operands, ev fr x = ev fr' x) : resOp T call fr o h s = resOp T call fr' o h s := by
  unfold resOp
  rw [iop_congr he]

theorem wanted_congr {o : Oper} {y y' : Nat → Option Bool} (hg : ∀ j b, o.guard = some (j, b) → y j = y' j) : Region.wanted o y = Region.wanted o y' := by
  unfold Region.wanted
  split
  · rfl
  · rename_i j b hj; rw [hg j b hj]

theorem ev_agree {fr fr' : Tr IV} {x : Operand} (h : ∀ t, x = .tmp t → fr.get t = fr'.get t) : ev fr x = ev fr' x := by
  cases x <;> simp only [ev]
  exact h _ rfl

theorem yield_agree {fr fr' : Tr IV} {j : Nat} (h : ∀ t, dstOf ops j = some t → fr.get t = fr'.get t) : yieldI ops fr j = yieldI ops fr' j := by
  unfold yieldI
  show (match dstOf ops j with | none => none | some d => match fr.get d with | some (.bool b) => some b | _ => none) = (match dstOf ops j with | none => none | some d => match fr'.get d with | some (.bool b) => some b | _ => none)
  cases hd : dstOf ops j with
  | none => rfl
  | some d => simp only; rw [h d hd]

theorem putI_get {fr fr1 : Tr IV} {dst : Option Tmp} {R : Option IV} (hp : putI N fr dst R = some fr1) : (∀ d, dst = some d → fr1.get d = R) ∧ ∀ t, dst ≠ some t → fr1.get t = fr.get t := by
  cases dst with
  | none => simp only [putI, Option.some.injEq] at hp; subst hp; exact ⟨fun d h => (by cases h), fun _ _ => rfl⟩
  | some d =>
    simp only [putI] at hp
    split at hp <;> (try cases hp)
    refine ⟨fun d' h => ?_, fun t h => ?_⟩
    · injection h with h; subst h; rw [Tr.get_put, if_pos rfl]
    · rw [Tr.get_put, if_neg (fun e => h (by rw [e]))]

/-- What holds at each place of the trace. -/
theorem runT_facts : ∀ (l : List Nat) {fr fn : Tr IV} {h : IH} {s : Side} {tr : List (Tr IV × IH × Side)}, runT T call N ops l fr h s = some (fn, tr) →
    tr[0]? = some (fr, h, s) ∧ tr.length = l.length + 1 ∧ (∀ t, (∀ j ∈ l, dstOf ops j ≠ some t) → fn.get t = fr.get t) ∧
    ∀ q i, l[q]? = some i → ∃ o R x y, ops[i]? = some o ∧ tr[q]? = some x ∧ tr[q + 1]? = some y ∧ resOne T call ops x.1 o x.2.1 x.2.2 = some (R, y.2.1, y.2.2) ∧ putI N x.1 o.dst R = some y.1 ∧
      (∀ t, (∀ j ∈ l.drop q, dstOf ops j ≠ some t) → fn.get t = x.1.get t) ∧ (∀ t, (∀ j ∈ l.drop (q + 1), dstOf ops j ≠ some t) → fn.get t = y.1.get t) ∧
      (∀ t, (∀ j ∈ l.take q, dstOf ops j ≠ some t) → x.1.get t = fr.get t)
  | [], fr, fn, h, s, tr, hr => by
    simp only [runT, Option.some.injEq, Prod.mk.injEq] at hr
    obtain ⟨rfl, rfl⟩ := hr
    exact ⟨rfl, rfl, fun _ _ => rfl, fun q i hq => by simp at hq⟩
  | i0 :: l, fr, fn, h, s, tr, hr => by
    simp only [runT] at hr
    cases ho : ops[i0]? with
    | none => simp only [ho] at hr; cases hr
    | some o =>
    simp only [ho] at hr
    cases h0 : oneOp T call N ops fr o h s with
    | none => simp only [h0] at hr; cases hr
    | some r0 =>
    obtain ⟨fr1, h1, s1⟩ := r0
    simp only [h0] at hr
    cases htl : runT T call N ops l fr1 h1 s1 with
    | none => simp only [htl] at hr; cases hr
    | some r1 =>
    obtain ⟨fn', tl⟩ := r1
    simp only [htl, Option.some.injEq, Prod.mk.injEq] at hr
    obtain ⟨e1, e2⟩ := hr
    subst e1 e2
    obtain ⟨R, hR, hp⟩ := oneOp_res h0
    obtain ⟨t0, t1, t2, t3⟩ := runT_facts l htl
    have hput : ∀ t, dstOf ops i0 ≠ some t → fr1.get t = fr.get t := fun t ht => (putI_get hp).2 t (fun e => ht (by simp [dstOf, ho, e]))
    have hfr : ∀ t, (∀ j ∈ i0 :: l, dstOf ops j ≠ some t) → fn'.get t = fr.get t := fun t ht => by
      rw [t2 t (fun j hj => ht j (List.mem_cons_of_mem _ hj))]
      exact hput t (ht i0 (by simp))
    refine ⟨rfl, by simp [t1], hfr, fun q i hq => ?_⟩
    cases q with
    | zero =>
      simp only [List.getElem?_cons_zero, Option.some.injEq] at hq
      subst hq
      exact ⟨o, R, (fr, h, s), (fr1, h1, s1), ho, rfl, by simpa using t0, hR, hp, fun t ht => hfr t (by simpa using ht), fun t ht => t2 t (by simpa using ht), fun t _ => rfl⟩
    | succ q =>
      simp only [List.getElem?_cons_succ] at hq
      obtain ⟨o', R', x, y, e1, e2, e3, e4, e5, e6, e7, e8⟩ := t3 q i hq
      exact ⟨o', R', x, y, e1, by simpa using e2, by simpa using e3, e4, e5, fun t ht => e6 t (by simpa using ht), fun t ht => e7 t (by simpa using ht), fun t ht => by
        rw [List.take_succ_cons] at ht
        rw [e8 t (fun j hj => ht j (List.mem_cons_of_mem _ hj))]
        exact hput t (ht i0 (by simp))⟩

/-- What is known of a region beforehand. -/
structure RF (T : Tabs) (N : Nat) (ops : Array Oper) (ord : List Nat) (anc : Nat → Nat → Bool) (chk : List (Nat × List Nat)) : Prop where
  cover : ∀ i, i < ops.size → ∃ q : Nat, ord[q]? = some i
  inj : ∀ (q p i : Nat), ord[q]? = some i → ord[p]? = some i → q = p
  bound : ∀ (q i : Nat), ord[q]? = some i → i < ops.size
  dst : ∀ (i j : Nat) d, dstOf ops i = some d → dstOf ops j = some d → i = j
  lt : ∀ (i : Nat) d, dstOf ops i = some d → d < N
  anc1 : ∀ (i : Nat) o (k : Nat), ops[i]? = some o → anc k i = true → ∃ e ∈ o.after, Region.binds .any e = true ∧ (e.on = k ∨ anc k e.on = true)
  top : ∀ (p i : Nat) o e, ord[p]? = some i → ops[i]? = some o → e ∈ o.after → Region.binds .any e = true → ∃ q : Nat, q < p ∧ ord[q]? = some e.on
  reads : ∀ (i : Nat) o t (k : Nat), ops[i]? = some o → .tmp t ∈ o.op.operands → dstOf ops k = some t → anc k i = true ∨ anc i k = true
  guards : ∀ (i : Nat) o (j : Nat) b, ops[i]? = some o → o.guard = some (j, b) → anc j i = true
  eord : ∀ (q q' i i' : Nat) o o', q < q' → ord[q]? = some i → ord[q']? = some i' → ops[i]? = some o → ops[i']? = some o' → clsOf T o = .E → (clsOf T o' = .E ∨ clsOf T o' = .A) → anc i i' = true
  checks : ∀ (q i : Nat) o, ord[q]? = some i → ops[i]? = some o → (clsOf T o = .L ∨ clsOf T o = .A) → ∃ es, (q, es) ∈ chk ∧
    ∀ (j i' : Nat) o', ord[j]? = some i' → ops[i']? = some o' → clsOf T o' = .E → anc i i' = false → anc i' i = false → j ∈ es

variable {ord : List Nat} {anc : Nat → Nat → Bool} {chk : List (Nat × List Nat)}

theorem RF.pos (k : RF T N ops ord anc chk) : ∀ (p : Nat) {i j : Nat}, ord[p]? = some i → anc j i = true → ∃ q, q < p ∧ ord[q]? = some j := by
  intro p
  induction p using Nat.strongRecOn with
  | ind p ih =>
    intro i j hp ha
    have hb := k.bound p i hp
    obtain ⟨e, he, hbi, h⟩ := k.anc1 i ops[i] j (by simp [hb]) ha
    obtain ⟨q, hq, hqe⟩ := k.top p i ops[i] e hp (by simp [hb]) he hbi
    rcases h with h | h
    · exact ⟨q, hq, h ▸ hqe⟩
    · obtain ⟨q', h1, h2⟩ := ih q hq hqe h
      exact ⟨q', by omega, h2⟩

/-- Who is done has his elders done. -/
theorem RF.closed (k : RF T N ops ord anc chk) {D : Nat → Prop} (hD : ∀ i o e, D i → ops[i]? = some o → e ∈ o.after → Region.binds .any e = true → D e.on) :
    ∀ (p : Nat) {i j : Nat}, ord[p]? = some i → D i → anc j i = true → D j := by
  intro p
  induction p using Nat.strongRecOn with
  | ind p ih =>
    intro i j hp hi ha
    have hb := k.bound p i hp
    obtain ⟨e, he, hbi, h⟩ := k.anc1 i ops[i] j (by simp [hb]) ha
    obtain ⟨q, hq, hqe⟩ := k.top p i ops[i] e hp (by simp [hb]) he hbi
    have hde := hD i ops[i] e hi (by simp [hb]) he hbi
    rcases h with h | h
    · exact h ▸ hde
    · exact ih q hq hqe hde h

theorem RF.ready (k : RF T N ops ord anc chk) {D : Nat → Prop} (hD : ∀ i o e, D i → ops[i]? = some o → e ∈ o.after → Region.binds .any e = true → D e.on)
    {p i : Nat} {o : Oper} (hp : ord[p]? = some i) (ho : ops[i]? = some o) (hr : ∀ e ∈ o.after, Region.binds .any e = true → D e.on) {j : Nat} (ha : anc j i = true) : D j := by
  obtain ⟨e, he, hbi, h⟩ := k.anc1 i o j ho ha
  obtain ⟨q, hq, hqe⟩ := k.top p i o e hp ho he hbi
  rcases h with h | h
  · exact h ▸ hr e he hbi
  · exact k.closed hD q hqe (hr e he hbi) h

/-- Each operation of the trace. -/
theorem RF.op (k : RF T N ops ord anc chk) {fr fn : Tr IV} {h : IH} {s : Side} {tr : List (Tr IV × IH × Side)} (hr : runT T call N ops ord fr h s = some (fn, tr)) {q i : Nat} {o : Oper} (hq : ord[q]? = some i) (ho : ops[i]? = some o) :
    ∃ R x y, tr[q]? = some x ∧ tr[q + 1]? = some y ∧ resOne T call ops x.1 o x.2.1 x.2.2 = some (R, y.2.1, y.2.2) ∧ (∀ d, o.dst = some d → fn.get d = R) ∧
      (∀ t j, dstOf ops j = some t → anc j i = true → fn.get t = x.1.get t) ∧ (∀ t, (∀ j, dstOf ops j = some t → anc i j = true) → x.1.get t = fr.get t) := by
  obtain ⟨_, _, _, hf⟩ := runT_facts ord hr
  obtain ⟨o', R, x, y, e1, e2, e3, e4, e5, e6, e7, e8⟩ := hf q i hq
  rw [ho] at e1
  injection e1 with e1
  subst e1
  have hmem : ∀ (n : Nat) (j : Nat), j ∈ ord.drop n → ∃ p, n ≤ p ∧ ord[p]? = some j := fun n j hj => by
    obtain ⟨m, hm⟩ := List.mem_iff_getElem?.1 hj
    rw [List.getElem?_drop] at hm
    exact ⟨n + m, by omega, hm⟩
  refine ⟨R, x, y, e2, e3, e4, fun d hd => ?_, fun t j hj ha => ?_, fun t ht => ?_⟩
  · rw [e7 d (fun j hj hjd => ?_)]
    · exact (putI_get e5).1 d hd
    · obtain ⟨p, hp, hpe⟩ := hmem _ j hj
      have := k.dst j i d hjd (by simp [dstOf, ho, hd])
      subst this
      have := k.inj _ _ _ hpe hq
      omega
  · refine e6 t (fun j' hj' hd => ?_)
    obtain ⟨p, hp, hpe⟩ := hmem q j' hj'
    have := k.dst j' j t hd hj
    subst this
    obtain ⟨q', h1, h2⟩ := k.pos q hq ha
    have := k.inj _ _ _ hpe h2
    omega
  · refine e8 t (fun j hj hd => ?_)
    obtain ⟨p, hp⟩ := List.mem_iff_getElem?.1 hj
    rw [List.getElem?_take] at hp
    split at hp <;> (try cases hp)
    rename_i hlt
    obtain ⟨q', h1, h2⟩ := k.pos p hp (ht j hd)
    have := k.inj _ _ _ h2 hq
    omega

end
end Go.Ae
