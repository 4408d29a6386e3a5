/-
  A region whose order is drawn: whatever the order, the trace's end is reached.
-/
import Derived.Test.YtkilagbpemchpaaGreatAeDraw1
set_option linter.unusedVariables false
set_option linter.unusedSimpArgs false
namespace Go.Ae
open Go Go.RowKit

def hAt (tr : List (Tr IV × IH × Side)) (q : Nat) : IH := match tr[q]? with | some x => x.2.1 | none => ⟨0, .nil, 0⟩
def sAt (tr : List (Tr IV × IH × Side)) (q : Nat) : Side := match tr[q]? with | some x => x.2.2 | none => ⟨[], []⟩
def frAt (tr : List (Tr IV × IH × Side)) (q : Nat) : Tr IV := match tr[q]? with | some x => x.1 | none => .nil

def blkAt (T : Tabs) (fn : Tr IV) (o : Oper) (h : IH) : Option Nat :=
  match clsOf T o with
  | .L => blkOf fn o
  | .A => some h.n
  | _ => none

def sameVal : Option INext → Option INext → Bool
  | some (.val (.int k n) _), some (.val (.int k' n') _) => decide (k = k') && decide (n = n')
  | _, _ => false

def dynOK (T : Tabs) (ops : Array Oper) (ord : List Nat) (tr : List (Tr IV × IH × Side)) (chk : List (Nat × List Nat)) : Bool :=
  chk.all fun x => match ord[x.1]? with
    | none => true
    | some i => match ops[i]? with
      | none => true
      | some o => if Region.wanted o (yieldI ops (frAt tr x.1)) then match blkAt T (frAt tr x.1) o (hAt tr x.1) with
          | some b => Nat.blt b (hAt tr (x.1 + 1)).n && x.2.all fun j => ((hAt tr j).get b).ver == ((hAt tr (j + 1)).get b).ver || sameVal (iop T (frAt tr x.1) o (hAt tr j)) (iop T (frAt tr x.1) o (hAt tr (j + 1)))
          | none => true
        else true

section
variable {P : Program} {T : Tabs} {call : CallF} {N : Nat} {ops : Array Oper}

theorem clsA1 {fr : Tr IV} {o : Oper} {h : IH} (hc : clsOf T o = .A) {r : INext} (hr : iop T fr o h = some r) : ∃ v obj, r = .val v (h.alloc obj) ∧ ∀ k n, v ≠ .int k n := by
  unfold clsOf at hc
  split at hc <;> (try cases hc)
  · rename_i ho
    simp only [iop, ho] at hr
    split at hr <;> (try cases hr)
    split at hr <;> (try cases hr)
    split at hr <;> (try cases hr)
    exact ⟨_, _, rfl, fun _ _ h => by cases h⟩
  · rename_i ho
    simp only [iop, ho] at hr
    split at hr <;> (try cases hr)
    split at hr <;> (try cases hr)
    exact ⟨_, _, rfl, fun _ _ h => by cases h⟩
  · rename_i ho
    simp only [iop, ho] at hr
    split at hr <;> (try cases hr)
    split at hr <;> (try cases hr)
    split at hr <;> (try cases hr)
    split at hr <;> (try cases hr)
    split at hr <;> (try cases hr)
    split at hr <;> (try cases hr)
    split at hr <;> (try cases hr)
    exact ⟨_, _, rfl, fun _ _ h => by cases h⟩
  · rename_i ho
    simp only [iop, ho] at hr
    split at hr <;> (try cases hr)
    split at hr <;> (try cases hr)
    split at hr <;> (try cases hr)
    split at hr <;> (try cases hr)
    split at hr <;> (try cases hr)
    split at hr <;> (try cases hr)
    split at hr <;> (try cases hr)
    split at hr <;> (try cases hr)
    split at hr <;> (try cases hr)
    split at hr <;> (try cases hr)
    exact ⟨_, _, rfl, fun _ _ h => by cases h⟩
  · rename_i ho
    simp only [iop, ho] at hr
    cases hr
    exact ⟨_, _, rfl, fun _ _ h => by cases h⟩
  · split at hc <;> (try cases hc)
    split at hc <;> cases hc
  · split at hc <;> (try cases hc)
    split at hc <;> (try cases hc)
    split at hc <;> cases hc

theorem clsA0 {fr : Tr IV} {o : Oper} {h : IH} (hc : clsOf T o = .A) {r : INext} (hr : iop T fr o h = some r) : ∃ v obj, r = .val v (h.alloc obj) := by
  obtain ⟨v, obj, e, _⟩ := clsA1 hc hr
  exact ⟨v, obj, e⟩

theorem clsA_noInt {fr : Tr IV} {o : Oper} {h h' : IH} (hc : clsOf T o = .A) {k : IntKind} {n : Int} (hr : iop T fr o h = some (.val (.int k n) h')) : False := by
  obtain ⟨v, obj, e, g⟩ := clsA1 hc hr
  injection e with e
  exact g k n e.symm

theorem resOp_ext (hS : Sound P call) {fr : Tr IV} {o : Oper} {h h1 : IH} {s s1 : Side} {R : Option IV} (hr : resOp T call fr o h s = some (R, h1, s1)) : Ext h h1 ∧ ∃ l, s1.asm = l ++ s.asm := by
  unfold resOp at hr
  split at hr <;> (try cases hr)
  · exact ⟨iop_ext ‹iop _ _ _ _ = _›, [], rfl⟩
  · exact ⟨iop_ext ‹iop _ _ _ _ = _›, [], rfl⟩
  · split at hr <;> (try cases hr)
    obtain ⟨_, g1, g2, _⟩ := hS _ _ _ _ _ _ _ ‹call _ _ _ _ = _›
    have q := iop_ext ‹iop _ _ _ _ = _›
    exact ⟨Ext.trans q g2, g1⟩

theorem resOne_ext (hS : Sound P call) {fr : Tr IV} {o : Oper} {h h1 : IH} {s s1 : Side} {R : Option IV} (hr : resOne T call ops fr o h s = some (R, h1, s1)) : Ext h h1 ∧ ∃ l, s1.asm = l ++ s.asm := by
  unfold resOne at hr
  split at hr
  · exact resOp_ext hS hr
  · cases hr
    exact ⟨Ext.refl _, [], rfl⟩

/-- An operation that only reckons or reads. -/
theorem resOp_still {fr : Tr IV} {o : Oper} {h h1 : IH} {s s1 : Side} {R : Option IV} (hc : clsOf T o = .P ∨ clsOf T o = .L) (hr : resOp T call fr o h s = some (R, h1, s1)) :
    ∃ v, R = some v ∧ h1 = h ∧ s1 = s ∧ ∀ h', (clsOf T o = .L → ∀ b, blkOf fr o = some b → h'.get b = h.get b) → iop T fr o h' = some (.val v h') := by
  unfold resOp at hr
  cases hi : iop T fr o h with
  | none => simp only [hi] at hr; cases hr
  | some r =>
    have : ∃ v, r = .val v h ∧ ∀ h', (clsOf T o = .L → ∀ b, blkOf fr o = some b → h'.get b = h.get b) → iop T fr o h' = some (.val v h') := by
      rcases hc with hc | hc
      · obtain ⟨v, e, g⟩ := clsP hc hi
        exact ⟨v, e, fun h' _ => g h'⟩
      · obtain ⟨v, e, g⟩ := clsL hc hi
        exact ⟨v, e, fun h' k => g h' (k hc)⟩
    obtain ⟨v, rfl, g⟩ := this
    simp only [hi, Option.some.injEq, Prod.mk.injEq] at hr
    obtain ⟨rfl, rfl, rfl⟩ := hr
    exact ⟨v, rfl, rfl, rfl, g⟩

theorem resOp_lay {fr : Tr IV} {o : Oper} {h h1 : IH} {s s1 : Side} {R : Option IV} (hc : clsOf T o = .A) (hr : resOp T call fr o h s = some (R, h1, s1)) :
    ∃ v obj, R = some v ∧ h1 = h.alloc obj ∧ s1 = s ∧ iop T fr o h = some (.val v (h.alloc obj)) := by
  unfold resOp at hr
  cases hi : iop T fr o h with
  | none => simp only [hi] at hr; cases hr
  | some r =>
    obtain ⟨v, obj, rfl⟩ := clsA0 hc hi
    simp only [hi, Option.some.injEq, Prod.mk.injEq] at hr
    obtain ⟨rfl, rfl, rfl⟩ := hr
    exact ⟨v, obj, rfl, rfl, rfl, rfl⟩

variable {ord : List Nat} {anc : Nat → Nat → Bool} {chk : List (Nat × List Nat)} {fr0 fn : Tr IV} {h0 : IH} {s0 : Side} {tr : List (Tr IV × IH × Side)}

theorem RF.op' (k : RF T N ops ord anc chk) (hr : runT T call N ops ord fr0 h0 s0 = some (fn, tr)) {q i : Nat} {o : Oper} (hq : ord[q]? = some i) (ho : ops[i]? = some o) :
    ∃ R, resOne T call ops (frAt tr q) o (hAt tr q) (sAt tr q) = some (R, hAt tr (q + 1), sAt tr (q + 1)) ∧ (∀ d, o.dst = some d → fn.get d = R) ∧
      (∀ t j, dstOf ops j = some t → anc j i = true → fn.get t = (frAt tr q).get t) ∧ (∀ t, (∀ j, dstOf ops j = some t → anc i j = true) → (frAt tr q).get t = fr0.get t) := by
  obtain ⟨R, x, y, e1, e2, e3, e4, e5, e6⟩ := k.op hr hq ho
  refine ⟨R, ?_, e4, ?_, ?_⟩
  · simp only [hAt, sAt, frAt, e1, e2]
    exact e3
  · simp only [frAt, e1]
    exact e5
  · simp only [frAt, e1]
    exact e6

theorem RF.at (k : RF T N ops ord anc chk) {q : Nat} (hq : q < ord.length) : ∃ i o, ord[q]? = some i ∧ ops[i]? = some o := by
  have h1 : ord[q]? = some ord[q] := by simp [hq]
  have h2 := k.bound _ _ h1
  exact ⟨_, ops[ord[q]], h1, by simp [h2]⟩

theorem RF.ext (k : RF T N ops ord anc chk) (hr : runT T call N ops ord fr0 h0 s0 = some (fn, tr)) (hS : Sound P call) (r1 : Nat) : ∀ r2, r1 ≤ r2 → r2 ≤ ord.length → Ext (hAt tr r1) (hAt tr r2) ∧ ∃ l, (sAt tr r2).asm = l ++ (sAt tr r1).asm := by
  intro r2 h1
  induction h1 with
  | refl => exact fun _ => ⟨Ext.refl _, [], rfl⟩
  | step h1 ih =>
    intro h2
    obtain ⟨i, o, hq, ho⟩ := k.at (q := _) h2
    obtain ⟨R, e, _⟩ := k.op' hr hq ho
    obtain ⟨g1, g2⟩ := ih (by omega)
    obtain ⟨g3, g4⟩ := resOne_ext hS e
    exact ⟨g1.trans g3, side_trans g2 g4⟩

/-- A block that no writer between two places touched. -/
theorem RF.seg (k : RF T N ops ord anc chk) (hr : runT T call N ops ord fr0 h0 s0 = some (fn, tr)) (hS : Sound P call) (r1 b : Nat) (hb : b < (hAt tr r1).n) : ∀ r2, r1 ≤ r2 → r2 ≤ ord.length →
    (∀ j i o, r1 ≤ j → j < r2 → ord[j]? = some i → ops[i]? = some o → clsOf T o = .E → ((hAt tr j).get b).ver = ((hAt tr (j + 1)).get b).ver) → (hAt tr r2).get b = (hAt tr r1).get b := by
  intro r2 h1
  induction h1 with
  | refl => exact fun _ _ => rfl
  | step h1 ih =>
    rename_i m
    intro h2 hE
    have h2' : m < ord.length := h2
    obtain ⟨i, o, hq, ho⟩ := k.at h2'
    obtain ⟨R, e, _⟩ := k.op' hr hq ho
    rw [← ih (by omega) (fun j i o a b => hE j i o a (by omega))]
    have hlt : b < (hAt tr m).n := Nat.lt_of_lt_of_le hb (k.ext hr hS r1 m h1 (by omega)).1.n
    unfold resOne at e
    split at e
    · cases hc : clsOf T o with
      | P => obtain ⟨_, _, e1, _⟩ := resOp_still (.inl hc) e; rw [e1]
      | L => obtain ⟨_, _, e1, _⟩ := resOp_still (.inr hc) e; rw [e1]
      | A =>
        obtain ⟨_, obj, _, e1, _⟩ := resOp_lay hc e
        rw [e1, IH.get_alloc, if_neg (by omega)]
      | E =>
        have hv := hE m i o h1 (Nat.lt_succ_self _) hq ho hc
        rcases (resOp_ext hS e).1.ver b hlt with g | ⟨g, _⟩
        · exact g
        · omega
    · simp only [Option.some.injEq, Prod.mk.injEq] at e
      rw [e.2.1]

theorem L_move {fr : Tr IV} {o : Oper} (hc : clsOf T o = .L) {h h' : IH} {v : IV} (hg : ∀ b, blkOf fr o = some b → h'.get b = h.get b) (hi : iop T fr o h = some (.val v h)) : iop T fr o h' = some (.val v h') := by
  obtain ⟨v', e, g⟩ := clsL hc hi
  injection e with e
  subst e
  exact g h' hg

theorem sameVal_spec {fr : Tr IV} {o : Oper} (hc : clsOf T o = .L) {h h' : IH} (hs : sameVal (iop T fr o h) (iop T fr o h') = true) {v : IV} : iop T fr o h = some (.val v h) ↔ iop T fr o h' = some (.val v h') := by
  unfold sameVal at hs
  split at hs <;> (try cases hs)
  rename_i k n g k' n' g' e e'
  simp only [Bool.and_eq_true, decide_eq_true_eq] at hs
  obtain ⟨rfl, rfl⟩ := hs
  obtain ⟨_, a, _⟩ := clsL hc e
  obtain ⟨_, a', _⟩ := clsL hc e'
  injection a with _ a
  injection a' with _ a'
  subst a a'
  rw [e, e']
  constructor
  · intro x; injection x with x; injection x with x; rw [x]
  · intro x; injection x with x; injection x with x; rw [x]

/-- What an operation reads, over writers that leave it. -/
theorem RF.segL (k : RF T N ops ord anc chk) (hr : runT T call N ops ord fr0 h0 s0 = some (fn, tr)) (hS : Sound P call) {fx : Tr IV} {o0 : Oper} (hc0 : clsOf T o0 = .L) {v : IV} (r1 : Nat) (hb : ∀ b, blkOf fx o0 = some b → b < (hAt tr r1).n) : ∀ r2, r1 ≤ r2 → r2 ≤ ord.length →
    (∀ j i o, r1 ≤ j → j < r2 → ord[j]? = some i → ops[i]? = some o → clsOf T o = .E → (∀ b, blkOf fx o0 = some b → ((hAt tr j).get b).ver = ((hAt tr (j + 1)).get b).ver) ∨ sameVal (iop T fx o0 (hAt tr j)) (iop T fx o0 (hAt tr (j + 1))) = true) →
    (iop T fx o0 (hAt tr r1) = some (.val v (hAt tr r1)) ↔ iop T fx o0 (hAt tr r2) = some (.val v (hAt tr r2))) := by
  intro r2 h1
  induction h1 with
  | refl => exact fun _ _ => Iff.rfl
  | step h1 ih =>
    rename_i m
    intro h2 hE
    have h2' : m < ord.length := h2
    obtain ⟨i, o, hq, ho⟩ := k.at h2'
    obtain ⟨R, e, _⟩ := k.op' hr hq ho
    rw [ih (by omega) (fun j i o a b => hE j i o a (by omega))]
    have hlt : ∀ b, blkOf fx o0 = some b → b < (hAt tr m).n := fun b hbb => Nat.lt_of_lt_of_le (hb b hbb) (k.ext hr hS r1 m h1 (by omega)).1.n
    have hsame : (∀ b, blkOf fx o0 = some b → (hAt tr (m + 1)).get b = (hAt tr m).get b) → (iop T fx o0 (hAt tr m) = some (.val v (hAt tr m)) ↔ iop T fx o0 (hAt tr (m + 1)) = some (.val v (hAt tr (m + 1)))) := fun g =>
      ⟨L_move hc0 g, L_move hc0 (fun b hbb => (g b hbb).symm)⟩
    unfold resOne at e
    split at e
    · cases hc : clsOf T o with
      | P => obtain ⟨_, _, e1, _⟩ := resOp_still (.inl hc) e; rw [e1]
      | L => obtain ⟨_, _, e1, _⟩ := resOp_still (.inr hc) e; rw [e1]
      | A =>
        obtain ⟨_, obj, _, e1, _⟩ := resOp_lay hc e
        refine hsame (fun b hbb => ?_)
        have := hlt b hbb
        rw [e1, IH.get_alloc, if_neg (by omega)]
      | E =>
        rcases hE m i o h1 (Nat.lt_succ_self _) hq ho hc with hv | hv
        · refine hsame (fun b hbb => ?_)
          rcases (resOp_ext hS e).1.ver b (hlt b hbb) with g | ⟨g, _⟩
          · exact g
          · have := hv b hbb
            omega
        · exact sameVal_spec hc0 hv
    · simp only [Option.some.injEq, Prod.mk.injEq] at e
      rw [e.2.1]

theorem HR.grow {ρ : Ren} {B : Nat} {h h' : IH} {w : World} (k : HR ρ B h w) (hn : h.n ≤ h'.n) (hg : ∀ b, b < h.n → h'.get b = h.get b) : HR ρ B h' w := by
  have hlt : ∀ {b m}, ρ b = some m → b < h.n := fun e => (k.dom _ _ e).1
  refine ⟨fun b m e => ⟨Nat.lt_of_lt_of_le (hlt e) hn, (k.dom b m e).2⟩, fun b c m l e1 e2 d1 d2 e => ?_, fun b m e => ?_, k.base⟩
  · rw [hg b (hlt e1)] at d1
    rw [hg c (hlt e2)] at d2
    exact k.inj b c m l e1 e2 d1 d2 e
  · rw [hg b (hlt e)]
    exact k.obj b m e

theorem Stp.grow {ρ0 ρ : Ren} {B : Nat} {h0 h h' : IH} {w0 w : World} (d : ∀ b m, ρ0 b = some m → b < h0.n) (k : Stp ρ0 ρ B h0 h w0 w) (hx : Ext h h') (hg : ∀ b, b < h.n → h'.get b = h.get b) : Stp ρ0 ρ B h0 h' w0 w :=
  k.trans d ⟨ρ.le_refl, hx, k.hr.grow hx.n hg, rfl, rfl, rfl, Nat.le_refl _, fun _ _ => .inl rfl, fun j m a b => by rw [a] at b; cases b⟩

/-- A block that stands in the trace is laid in the world. -/
theorem Stp.lay {ρ0 ρ : Ren} {B : Nat} {h0 h : IH} {w0 w : World} (k : Stp ρ0 ρ B h0 h w0 w) {id : Nat} (h1 : h0.n ≤ id) (h2 : id < h.n) (hρ : ρ id = none) {O : Obj} {size : Nat} {obj : IO} (hobj : h.get id = obj)
    (ho : OR (ρ.add id ⟨w.heap.size, 0, size⟩) B ⟨w.heap.size, 0, size⟩ obj (some O)) :
    Stp ρ0 (ρ.add id ⟨w.heap.size, 0, size⟩) B h0 h w0 { w with heap := w.heap.push O } := by
  have hle := Ren.le_add ρ id ⟨w.heap.size, 0, size⟩ hρ
  have kr := k.hr
  refine ⟨Ren.le_trans k.le hle, k.ext, ⟨?_, ?_, ?_, ?_⟩, k.frm.os, k.frm.tape, k.frm.output, ?_, ?_, ?_⟩
  · intro b m hb
    by_cases e : b = id
    · subst e; rw [Ren.add_same] at hb; injection hb with hb; subst hb; exact ⟨h2, by simp⟩
    · rw [Ren.add_other _ _ _ _ e] at hb
      have := kr.dom b m hb
      exact ⟨this.1, by simp; omega⟩
  · intro b c m l hb hc db dc e
    by_cases eb : b = id <;> by_cases ec : c = id
    · rw [eb, ec]
    · subst eb
      rw [Ren.add_same] at hb; injection hb with hb; subst hb
      rw [Ren.add_other _ _ _ _ ec] at hc
      have := (kr.dom c l hc).2
      simp only at e
      omega
    · subst ec
      rw [Ren.add_same] at hc; injection hc with hc; subst hc
      rw [Ren.add_other _ _ _ _ eb] at hb
      have := (kr.dom b m hb).2
      simp only at e
      omega
    · rw [Ren.add_other _ _ _ _ eb] at hb
      rw [Ren.add_other _ _ _ _ ec] at hc
      exact kr.inj b c m l hb hc db dc e
  · intro b m hb
    by_cases e : b = id
    · subst e
      rw [Ren.add_same] at hb; injection hb with hb; subst hb
      rw [hobj]
      simpa using ho
    · rw [Ren.add_other _ _ _ _ e] at hb
      have := kr.obj b m hb
      have hlt := (kr.dom b m hb).2
      have he : (w.heap.push O)[m.blk]? = w.heap[m.blk]? := by rw [Array.getElem?_push, if_neg (by omega)]
      show OR _ B m (h.get b) ((w.heap.push O)[m.blk]?)
      rw [he]
      exact this.mono hle
  · have := kr.base
    simp
    omega
  · have := k.frm.size
    simp
    omega
  · intro j hj
    have := k.frm.size
    have he : (w.heap.push O)[j]? = w.heap[j]? := by rw [Array.getElem?_push, if_neg (by omega)]
    show (w.heap.push O)[j]? = _ ∨ _
    rw [he]
    exact k.frm.block j hj
  · intro j m hj hn
    by_cases e : j = id
    · subst e; rw [Ren.add_same] at hj; injection hj with hj; subst hj; exact ⟨h1, .inl k.frm.size⟩
    · rw [Ren.add_other _ _ _ _ e] at hj; exact k.frm.fresh j m hj hn

end
end Go.Ae
