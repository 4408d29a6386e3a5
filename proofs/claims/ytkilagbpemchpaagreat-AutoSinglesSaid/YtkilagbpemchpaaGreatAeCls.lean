/-
  Kinds of operations: those that only reckon, that lay a block, that read, all others.
-/
import Derived.Test.YtkilagbpemchpaaGreatAeExt
set_option linter.unusedVariables false
set_option linter.unusedSimpArgs false
namespace Go.Ae
open Go Go.RowKit

inductive Cls where
  | P | A | L | E
  deriving DecidableEq

def clsOf (T : Tabs) (o : Oper) : Cls :=
  match o.op with
  | .alloc _ => .A
  | .box _ _ => .A
  | .buildSlice _ _ _ => .A
  | .makeSlice _ _ _ => .A
  | .makeMap _ none => .A
  | .load _ _ => .L
  | .lookup _ _ _ _ => .L
  | .move _ => .P
  | .assign _ => .P
  | .pick _ _ _ => .P
  | .build _ _ => .P
  | .nilCheck _ => .P
  | .binOp _ _ _ _ _ => .P
  | .unOp _ _ _ => .P
  | .convert _ _ _ => .P
  | .makeFunc _ _ _ => .P
  | .fieldAddr _ _ _ => .P
  | .field _ _ _ => .P
  | .indexAddr _ _ _ => .P
  | .index _ _ _ => .P
  | .extract _ _ => .P
  | .slice t _ _ _ _ => match T.ty t with
    | some ti => if ti.d.agg then .E else .P
    | none => .E
  | .call c => match c.callee with
    | .builtin .len => match tyAt T c 0 with
      | some ti => match ti.d with
        | .map _ _ => .E
        | _ => .P
      | none => .E
    | .builtin .min => .P
    | .builtin .max => .P
    | .builtin .cap => .P
    | _ => .E
  | _ => .E

/-- The block that a reading operation reads. -/
def blkOf (fr : Tr IV) (o : Oper) : Option Nat :=
  match o.op with
  | .load _ a => match ev fr a with
    | some (.ptr (some (b, _))) => some b
    | _ => none
  | .lookup _ m _ _ => match ev fr m with
    | some (.map (some r)) => some r
    | _ => none
  | _ => none

section
variable {P : Program} {T : Tabs} {fr : Tr IV} {o : Oper} {h : IH} {ρ : Ren} {a : Act} {w : World}

def RunA (P : Program) (o : Oper) (a : Act) (ρ : Ren) (w : World) (obj : IO) (mk : Nat → IV) : Prop :=
  ∃ O size v', (execOp a.eval o).run P w = .ok (.value v') { w with heap := w.heap.push O } ∧
    (∀ (ρ' : Ren) B id, ρ.le ρ' → ρ' id = some ⟨w.heap.size, 0, size⟩ → B ≤ w.heap.size → OR ρ' B ⟨w.heap.size, 0, size⟩ obj (some O)) ∧
    ∀ (ρ' : Ren) id, ρ' id = some ⟨w.heap.size, 0, size⟩ → VR ρ' (mk id) v'

theorem runA_cells {cs : List IV} {cs' : List Value} {e : TypeId} (hr : VRs ρ cs cs') {v' : Value} {mk : Nat → IV}
    (hrun : (execOp a.eval o).run P w = .ok (.value v') { w with heap := w.heap.push (.cells cs'.toArray e (0, 0)) })
    (hv : ∀ (ρ' : Ren) id, ρ' id = some ⟨w.heap.size, 0, cs'.length⟩ → VR ρ' (mk id) v') : RunA P o a ρ w (.cells true 0 cs) mk :=
  ⟨_, cs'.length, v', hrun, fun ρ' B id hle hid hB => ⟨cs', e, (0, 0), rfl, rfl, by rw [List.drop_zero, ← hr.length, List.take_length]; exact VRs.mono hle _ _ hr, fun _ => ⟨rfl, hB⟩⟩, hv⟩

theorem runA_alloc (hT : TabsOk P T) {t : TypeId} (ho : o.op = .alloc t) {r : INext} (hr : iop T fr o h = some r) : ∃ obj mk, r = .val (mk h.n) (h.alloc obj) ∧ RunA P o a ρ w obj mk := by
  unfold iop at hr
  rw [ho] at hr
  simp only at hr
  split at hr <;> (try cases hr)
  rename_i ti hti
  split at hr <;> (try cases hr)
  rename_i z hz
  split at hr <;> (try cases hr)
  rename_i hone
  obtain ⟨v, hv, hrel⟩ := run_zero (hT.ty _ _ hti) hz
  refine ⟨.cells true 0 z.cells, fun id => .ptr (some (id, 0)), rfl, runA_cells (e := t) (hrel ρ).cells (v' := .pointer (some ⟨w.heap.size, 0, none⟩)) ?_ (fun ρ' id hid => ⟨_, hid, rfl⟩)⟩
  simp [execOp, ho, Instr.alloc, hv, newVar, newRow]

theorem runA_box (hf : FR ρ fr a) {t : TypeId} {x : Operand} (ho : o.op = .box t x) {r : INext} (hr : iop T fr o h = some r) : ∃ obj mk, r = .val (mk h.n) (h.alloc obj) ∧ RunA P o a ρ w obj mk := by
  unfold iop at hr
  rw [ho] at hr
  simp only at hr
  split at hr <;> (try cases hr)
  rename_i v hx
  split at hr <;> (try cases hr)
  rename_i hone
  have e := ev_rel hf hx
  refine ⟨.cells true 0 v.cells, fun id => .ptr (some (id, 0)), rfl, runA_cells (e := t) e.cells (v' := .pointer (some ⟨w.heap.size, 0, none⟩)) ?_ (fun ρ' id hid => ⟨_, hid, rfl⟩)⟩
  simp [execOp, ho, Instr.box, newVar, newRow]

theorem runA_buildSlice (hT : TabsOk P T) (hf : FR ρ fr a) {t : TypeId} {len : Nat} {ps : Array (Nat × Operand)} (ho : o.op = .buildSlice t len ps) {r : INext} (hr : iop T fr o h = some r) : ∃ obj mk, r = .val (mk h.n) (h.alloc obj) ∧ RunA P o a ρ w obj mk := by
  unfold iop at hr
  rw [ho] at hr
  simp only at hr
  split at hr <;> (try cases hr)
  rename_i ti l hti hl
  obtain ⟨p1, p2⟩ := parts_rel hf hl
  obtain ⟨d, hd, hok⟩ := (hT.ty _ _ hti).und
  split at hr <;> (try cases hr)
  rename_i e hde
  rw [hde] at hok
  simp only [TDok] at hok
  subst hok
  split at hr <;> (try cases hr)
  rename_i te hte
  split at hr <;> (try cases hr)
  rename_i z hz
  split at hr <;> (try cases hr)
  rename_i hlim
  split at hr <;> (try cases hr)
  rename_i cs hcs
  split at hr <;> (try cases hr)
  rename_i hone
  obtain ⟨v, hv, hrel⟩ := run_zero (hT.ty _ _ hte) hz
  have hzs := hT.zs _ _ _ hte hz
  obtain ⟨lz, z1, z2, z3⟩ := range_cells (ρ := ρ) hrel hzs len
  obtain ⟨cs', c1, c2⟩ := fill_rel (ρ := ρ) (cells' := lz.toArray) p1 p2 (by simpa using z2) hcs
  have hcsl : cs'.size = len * te.size := by
    have : ∀ {place : Nat → Option (Nat × Nat)} (l : List (Nat × Value)) (c r : Array Value), Instr.fill place c l = some r → r.size = c.size := by
      intro place l
      induction l with
      | nil => intro c r h; simp only [Instr.fill, Option.some.injEq] at h; rw [h]
      | cons x l ih =>
        intro c r h
        obtain ⟨i, v⟩ := x
        simp only [Instr.fill] at h
        split at h <;> (try cases h)
        split at h <;> (try cases h)
        rw [ih _ _ h]
        have : ∀ (xs : List (Value × Nat)) (f : Nat) (c : Array Value), (xs.foldl (fun cs (x : Value × Nat) => cs.setIfInBounds (f + x.2) x.1) c).size = c.size := by
          intro xs f
          induction xs with
          | nil => intro c; rfl
          | cons x xs ih => intro c; rw [List.foldl_cons, ih]; simp
        rw [← Array.foldl_toList]
        exact this _ _ _
    rw [this _ _ _ c1]
    simp [z3]
  refine ⟨.cells true 0 cs, fun id => .slice (some (id, 0)) len len te.size, rfl, runA_cells (e := e) (cs' := cs'.toList) c2 (v' := .slice (some ⟨w.heap.size, 0, none⟩) len len) ?_ (fun ρ' id hid => ?_)⟩
  · have hpl : (ps.map fun (i, x) => (i, a.eval x)).toList = ps.toList.map fun (i, x) => (i, a.eval x) := by simp
    have hlim' : ¬ len * te.size > 2 ^ 24 := by omega
    by_cases h0 : len * te.size = 0
    · rw [if_pos h0] at z1
      simp only [execOp, ho, Instr.buildSlice, Sem.run_bind, run_underlying hd, Result.andThen_ok, run_sizeOf (hT.ty _ _ hte), h0, show ¬ (0 > 2 ^ 24) by omega, if_false, if_true, Sem.run_pure]
      rw [h0] at z1
      rw [z1, hpl, c1]
      simp [newRow]
    · rw [if_neg h0] at z1
      simp only [execOp, ho, Instr.buildSlice, Sem.run_bind, run_underlying hd, Result.andThen_ok, run_sizeOf (hT.ty _ _ hte), hlim', if_false, h0, Sem.run_pure, hv]
      rw [z1, hpl, c1]
      simp [newRow]
  · exact ⟨_, len, 0, hid, rfl, Nat.le_refl _, Nat.le_refl _, .inl ⟨rfl, by simp [hcsl]⟩⟩

theorem runA_makeSlice (hT : TabsOk P T) (hf : FR ρ fr a) {t : TypeId} {x y : Operand} (ho : o.op = .makeSlice t x y) {r : INext} (hr : iop T fr o h = some r) : ∃ obj mk, r = .val (mk h.n) (h.alloc obj) ∧ RunA P o a ρ w obj mk := by
  unfold iop at hr
  rw [ho] at hr
  simp only at hr
  split at hr <;> (try cases hr)
  rename_i ti k1 n k2 n2 hti hx hy
  split at hr <;> (try cases hr)
  rename_i e hde
  obtain ⟨d, hd, hok⟩ := (hT.ty _ _ hti).und
  rw [hde] at hok
  simp only [TDok] at hok
  subst hok
  split at hr <;> (try cases hr)
  rename_i te hte
  split at hr <;> (try cases hr)
  rename_i z hz
  split at hr <;> (try cases hr)
  rename_i hnm
  subst hnm
  split at hr <;> (try cases hr)
  rename_i h0
  split at hr <;> (try cases hr)
  rename_i hby
  split at hr <;> (try cases hr)
  rename_i hmax
  split at hr <;> (try cases hr)
  rename_i hone
  split at hr <;> (try cases hr)
  rename_i hzl
  obtain ⟨v, hv, hrel⟩ := run_zero (hT.ty _ _ hte) hz
  obtain ⟨f, hf1, hf2, hf3, _⟩ := (hT.ty _ _ hte).info
  obtain ⟨lz, z1, z2, z3⟩ := range_cells (ρ := ρ) hrel hzl n.toNat
  have ex := ev_rel hf hx
  have ey := ev_rel hf hy
  simp only [VR] at ex ey
  have hwrap : IntKind.i64.wrap n = n := by
    have e1 : (2 : Int) ^ IntKind.i64.bits = 18446744073709551616 := by decide
    have e2 : (2 : Int) ^ (IntKind.i64.bits - 1) = 9223372036854775808 := by decide
    unfold IntKind.wrap
    simp only [e1, e2, IntKind.signed]
    have : n % 18446744073709551616 = n := by omega
    rw [this]
    simp
    omega
  have htl : (decide (n < 0) || decide ((f.bytes : Int) * n > 2 ^ 48)) = false := by
    rw [hf3]
    simp
    omega
  have hti' : ∀ w, (typeInfo e).run P w = .ok f w := fun w => by simp [typeInfo, hf1]
  refine ⟨.cells true 0 (List.replicate n.toNat z.cells).flatten, fun id => .slice (some (id, 0)) n.toNat n.toNat te.size, rfl, runA_cells (e := e) (cs' := lz) z2 (v' := .slice (some ⟨w.heap.size, 0, none⟩) n.toNat n.toNat) ?_ (fun ρ' id hid => ?_)⟩
  · have hcond : ((decide (n < 0) || decide ((f.bytes : Int) * n > 2 ^ 48)) || decide (n < 0) || decide (n > n)) = false := by rw [htl]; simp; omega
    by_cases h0 : n.toNat * te.size = 0
    · rw [if_pos h0] at z1
      simp only [execOp, ho, ex, ey, Instr.makeSlice, Sem.run_bind, run_underlying hd, Result.andThen_ok, asInt, asIntOf, Sem.run_pure, hti', hwrap, hcond, Bool.false_eq_true, if_false, run_askRoom, run_sizeOf (hT.ty _ _ hte), h0, if_true]
      rw [h0] at z1
      rw [z1]
      simp [newRow]
    · rw [if_neg h0] at z1
      simp only [execOp, ho, ex, ey, Instr.makeSlice, Sem.run_bind, run_underlying hd, Result.andThen_ok, asInt, asIntOf, Sem.run_pure, hti', hwrap, hcond, Bool.false_eq_true, if_false, run_askRoom, run_sizeOf (hT.ty _ _ hte), h0, hv]
      rw [z1]
      simp [newRow]
  · exact ⟨_, n.toNat, 0, hid, rfl, Nat.le_refl _, Nat.le_refl _, .inl ⟨rfl, by simp [z3]⟩⟩

theorem runA_makeMap {t : TypeId} (ho : o.op = .makeMap t none) {r : INext} (hr : iop T fr o h = some r) : ∃ obj mk, r = .val (mk h.n) (h.alloc obj) ∧ RunA P o a ρ w obj mk := by
  unfold iop at hr
  rw [ho] at hr
  simp only [Option.some.injEq] at hr
  subst hr
  refine ⟨.map 0 [] 0, fun id => .map (some id), rfl, .map #[] 0, 0, .map (some w.heap.size), ?_, fun ρ' B id _ _ hB => ⟨[], rfl, rfl, hB⟩, fun ρ' id hid => ⟨_, hid, rfl⟩⟩
  simp [execOp, ho, Instr.makeMap]

theorem clsA (hT : TabsOk P T) (hc : clsOf T o = .A) (hf : FR ρ fr a) {r : INext} (hr : iop T fr o h = some r) : ∃ obj mk, r = .val (mk h.n) (h.alloc obj) ∧ RunA P o a ρ w obj mk := by
  unfold clsOf at hc
  split at hc <;> (try cases hc)
  · exact runA_alloc hT ‹_› hr
  · exact runA_box hf ‹_› hr
  · exact runA_buildSlice hT hf ‹_› hr
  · exact runA_makeSlice hT hf ‹_› hr
  · exact runA_makeMap ‹_› hr
  · split at hc <;> (try cases hc)
    split at hc <;> cases hc
  · split at hc <;> (try cases hc)
    split at hc <;> (try cases hc)
    split at hc <;> cases hc

end
end Go.Ae
