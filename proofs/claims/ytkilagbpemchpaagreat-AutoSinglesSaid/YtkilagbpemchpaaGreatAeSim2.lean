/-
  The operations on the ideal heap are the machine's: what only reckons.
-/
import Derived.Test.YtkilagbpemchpaaGreatAeSim1
set_option linter.unusedVariables false
set_option linter.unusedSimpArgs false
namespace Go.Ae
open Go Go.RowKit

def SimRes (P : Program) (o : Oper) (a : Act) (ρ : Ren) (B : Nat) (h : IH) (w : World) : INext → Prop
  | .val v h1 => ∃ v' w1 ρ1, (execOp a.eval o).run P w = .ok (.value v') w1 ∧ VR ρ1 v v' ∧ Stp ρ ρ1 B h h1 w w1
  | .skip h1 => ∃ w1 ρ1, (execOp a.eval o).run P w = .ok .skip w1 ∧ Stp ρ ρ1 B h h1 w w1
  | .call f args h1 => h1 = h ∧ ∀ fn, P.funcs[f]? = some fn → fn.body.isNone = false → (fn.name == "runtime.NumGoroutine") = false →
      ∃ args' : List Value, (execOp a.eval o).run P w = .ok (.enter f args'.toArray) w ∧ VRs ρ args args'

structure EqOk (P : Program) (t : TypeId) (n : Nat) : Prop where
  eq : ∀ (xs ys : List IV), xs.length = n → ys.length = n → ∀ r, eqPlain xs ys = some r → ∀ ρ xs' ys', VRs ρ xs xs' → VRs ρ ys ys' → ∀ w, (Op.equal t (.agg xs'.toArray) (.agg ys'.toArray)).run P w = .ok r w
  guard : P.eqGuardType P.depth t = false

structure KeyOk (P : Program) (t : TypeId) (n : Nat) : Prop where
  eq : EqOk P t n
  check : ∀ b k, keyShape n k = true → ∀ ρ k', VR ρ k k' → ∀ w, (Instr.checkKey b 10000 t k').run P w = .ok () w

structure TabsOk (P : Program) (T : Tabs) : Prop where
  ty : ∀ t i, T.ty t = some i → TIok P t i
  eq : ∀ t n, T.eq t = some n → EqOk P t n
  sk : ∀ t n, T.sk t = some n → KeyOk P t n
  fld : ∀ t i fs, T.ty t = some i → i.d = .struct fs → ∀ x ∈ fs, ∃ j, T.ty x.2 = some j
  zs : ∀ t i z, T.ty t = some i → i.zero = some z → z.cells.length = i.size

theorem sim_val {P : Program} {o : Oper} {a : Act} {ρ : Ren} {B : Nat} {h : IH} {w : World} (k : HR ρ B h w) {x : IV} {v : Value} (hr : (execOp a.eval o).run P w = .ok (.value v) w) (hv : VR ρ x v) : SimRes P o a ρ B h w (.val x h) :=
  ⟨v, w, ρ, hr, hv, Stp.refl k⟩

section
variable {P : Program} {T : Tabs} {fr : Tr IV} {o : Oper} {h : IH} {ρ : Ren} {B : Nat} {a : Act} {w : World}

theorem sim_move (hf : FR ρ fr a) (k : HR ρ B h w) {x : Operand} (ho : o.op = .move x) {r : INext} (hr : iop T fr o h = some r) : SimRes P o a ρ B h w r := by
  unfold iop at hr
  rw [ho] at hr
  simp only [Option.map_eq_some_iff] at hr
  obtain ⟨v, hv, rfl⟩ := hr
  exact sim_val k (by simp [execOp, ho]) (ev_rel hf hv)

theorem sim_assign (hf : FR ρ fr a) (k : HR ρ B h w) {x : Operand} (ho : o.op = .assign x) {r : INext} (hr : iop T fr o h = some r) : SimRes P o a ρ B h w r := by
  unfold iop at hr
  rw [ho] at hr
  simp only [Option.map_eq_some_iff] at hr
  obtain ⟨v, hv, rfl⟩ := hr
  exact sim_val k (by simp [execOp, ho]) (ev_rel hf hv)

theorem sim_pick (hf : FR ρ fr a) (k : HR ρ B h w) {c x y : Operand} (ho : o.op = .pick c x y) {r : INext} (hr : iop T fr o h = some r) : SimRes P o a ρ B h w r := by
  unfold iop at hr
  rw [ho] at hr
  simp only at hr
  split at hr
  · rename_i t hc
    simp only [Option.map_eq_some_iff] at hr
    obtain ⟨v, hv, rfl⟩ := hr
    have e := ev_rel hf hc
    simp only [VR] at e
    refine sim_val k (v := if t then a.eval x else a.eval y) (by simp [execOp, ho, e, asBool]) ?_
    cases t
    · simpa using ev_rel hf (by simpa using hv)
    · simpa using ev_rel hf (by simpa using hv)
  · cases hr

theorem sim_nilCheck (hf : FR ρ fr a) (k : HR ρ B h w) {x : Operand} (ho : o.op = .nilCheck x) {r : INext} (hr : iop T fr o h = some r) : SimRes P o a ρ B h w r := by
  unfold iop at hr
  rw [ho] at hr
  simp only at hr
  split at hr
  · rename_i p hx
    injection hr with hr; subst hr
    have e := ev_rel hf hx
    have e' := e
    simp only [VR] at e
    obtain ⟨m, hm, e⟩ := e
    exact sim_val k (by simp only [execOp, ho, e, Sem.run_pure]; rfl) (by rw [e] at e'; exact e')
  · rename_i f cap hx
    injection hr with hr; subst hr
    have e := ev_rel hf hx
    have e' := e
    simp only [VR] at e
    obtain ⟨m, e, hm⟩ := e
    exact sim_val k (by simp only [execOp, ho, e, Sem.run_pure]; rfl) (by rw [e] at e'; exact e')
  · cases hr

theorem sim_extract (hf : FR ρ fr a) (k : HR ρ B h w) {x : Operand} {i : Nat} (ho : o.op = .extract x i) {r : INext} (hr : iop T fr o h = some r) : SimRes P o a ρ B h w r := by
  unfold iop at hr
  rw [ho] at hr
  simp only at hr
  split at hr
  · rename_i l hx
    simp only [Option.map_eq_some_iff] at hr
    obtain ⟨v, hv, rfl⟩ := hr
    have e := ev_rel hf hx
    simp only [VR] at e
    obtain ⟨vs', e, hs⟩ := e
    obtain ⟨v', h1, h2⟩ := hs.get i v hv
    exact sim_val k (by simp [execOp, ho, e, Instr.extract, h1]) h2
  · cases hr

theorem sim_makeFunc (hf : FR ρ fr a) (k : HR ρ B h w) {fn : Fn} {first cap : Array Operand} (ho : o.op = .makeFunc fn first cap) {r : INext} (hr : iop T fr o h = some r) : SimRes P o a ρ B h w r := by
  unfold iop at hr
  rw [ho] at hr
  cases fn <;> simp only at hr <;> (try cases hr)
  rename_i f
  split at hr
  · rename_i h0
    simp only [Option.map_eq_some_iff] at hr
    obtain ⟨l, hl, rfl⟩ := hr
    have h0' : first = #[] := Array.eq_empty_of_size_eq_zero h0
    subst h0'
    refine sim_val k (v := .func (.func f) #[] (cap.toList.map a.eval).toArray) ?_ ⟨_, rfl, mapO_ev hf hl⟩
    simp [execOp, ho, Instr.makeFunc]
    rw [← Array.toList_map]
  · cases hr

theorem sim_unOp (hf : FR ρ fr a) (k : HR ρ B h w) {op : UnOp} {t : TypeId} {x : Operand} (ho : o.op = .unOp op t x) {r : INext} (hr : iop T fr o h = some r) : SimRes P o a ρ B h w r := by
  unfold iop at hr
  rw [ho] at hr
  simp only at hr
  split at hr
  · rename_i v hx
    simp only [Option.map_eq_some_iff] at hr
    obtain ⟨u, hu, rfl⟩ := hr
    have e := ev_rel hf hx
    unfold iun at hu
    split at hu
    · simp only [VR] at e
      injection hu with hu; subst hu
      exact sim_val k (v := .bool !_) (by simp [execOp, ho, e, Op.unary]; rfl) (by simp [VR])
    · simp only [VR] at e
      injection hu with hu; subst hu
      exact sim_val k (v := .int _ _) (by simp [execOp, ho, e, Op.unary, Op.intArith]; exact ⟨rfl, rfl⟩) (by simp [VR])
    · cases hu
  · cases hr

theorem sim_convert (hT : TabsOk P T) (hf : FR ρ fr a) (k : HR ρ B h w) {s d : TypeId} {x : Operand} (ho : o.op = .convert s d x) {r : INext} (hr : iop T fr o h = some r) : SimRes P o a ρ B h w r := by
  unfold iop at hr
  rw [ho] at hr
  simp only at hr
  split at hr
  · rename_i ts td v hts htd hx
    split at hr
    · rename_i k' kk n hk
      injection hr with hr; subst hr
      obtain ⟨ds, hds, _⟩ := (hT.ty _ _ hts).und
      obtain ⟨dd, hdd, hok⟩ := (hT.ty _ _ htd).und
      rw [hk] at hok
      simp only [TDok] at hok
      subst hok
      have e := ev_rel hf hx
      simp only [VR] at e
      refine sim_val k (v := .int k' (k'.wrap n)) ?_ (by simp [VR])
      simp [execOp, ho, e, convert, run_underlying hds, run_underlying hdd, Conv.intToInt]
    · cases hr
  · cases hr

theorem bytes_toList (l : List UInt8) : (⟨l.toArray⟩ : ByteArray).toList = l := by
  have : ∀ b : ByteArray, b.toList = b.data.toList := fun b => by
    first | exact Lib.toList_data b | exact ByteArray.toList_eq b | exact toList_eq b
  rw [this]

end
end Go.Ae
