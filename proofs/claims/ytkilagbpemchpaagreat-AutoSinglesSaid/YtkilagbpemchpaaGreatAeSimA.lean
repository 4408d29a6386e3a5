/-
  The operations on the ideal heap are the machine's: maps; and all operations in one.
-/
import Derived.Test.YtkilagbpemchpaaGreatAeSim9
set_option linter.unusedVariables false
set_option linter.unusedSimpArgs false
namespace Go.Ae
open Go Go.RowKit

section
variable {P : Program} {T : Tabs} {fr : Tr IV} {o : Oper} {h : IH} {ρ : Ren} {B : Nat} {a : Act} {w : World}

/-- The entries of a map on both sides. -/
theorem ents_rel (k : HR ρ B h w) {m : IV} {m' : Value} (hm : VR ρ m m') {es : List (IV × IV × Nat)} (he : entsI m h = some es) :
    ∃ es' : List MapEntry, ERs ρ es es' ∧ ((m' = .map none ∧ es' = []) ∨ ∃ r clock, m' = .map (some r) ∧ w.heap[r]? = some (.map es'.toArray clock)) := by
  unfold entsI at he
  split at he <;> (try cases he)
  · simp only [VR] at hm
    exact ⟨[], rfl, .inl ⟨hm, rfl⟩⟩
  · rename_i r
    split at he <;> (try cases he)
    rename_i ver es clock hg
    simp only [VR] at hm
    obtain ⟨pl, hp, rfl⟩ := hm
    have hor := k.obj r pl hp
    rw [hg] at hor
    obtain ⟨es', q1, q2, _⟩ := hor
    exact ⟨es', q2, .inr ⟨pl.blk, clock, rfl, q1⟩⟩

theorem sim_lookup (hT : TabsOk P T) (hf : FR ρ fr a) (k : HR ρ B h w) {t : TypeId} {x y : Operand} {ok : Bool} (ho : o.op = .lookup t x y ok) {r : INext} (hr : iop T fr o h = some r) : SimRes P o a ρ B h w r := by
  unfold iop at hr
  rw [ho] at hr
  simp only at hr
  split at hr <;> (try cases hr)
  rename_i ti m kv hti hx hy
  have ex := ev_rel hf hx
  have ey := ev_rel hf hy
  obtain ⟨d, hd, hok⟩ := (hT.ty _ _ hti).und
  split at hr <;> (try cases hr)
  rename_i kt e hde
  rw [hde] at hok; simp only [TDok] at hok; subst hok
  split at hr <;> (try cases hr)
  rename_i te hte
  split at hr <;> (try cases hr)
  rename_i z es hz hes
  split at hr <;> (try cases hr)
  rename_i hkey
  split at hr <;> (try cases hr)
  rename_i r hfind
  have hc := key_case hT hkey
  obtain ⟨es', he1, he2⟩ := ents_rel k ex hes
  obtain ⟨r', f1, f2⟩ := find_rel (w := w) hT hc ey he1 hfind
  obtain ⟨v0, hv0, hrel⟩ := run_zero (hT.ty _ _ hte) hz
  have hchk : ∀ b, (Instr.checkKey b 10000 kt (a.eval y)).run P w = .ok () w := fun b => check_rel hc ey b
  have hrun : ∀ (v : Value) (b : Bool), (match r' with | some (_, v) => (v, true) | none => (v0, false)) = (v, b) → (execOp a.eval o).run P w = .ok (.value (if ok then .tuple #[v, .bool b] else v)) w := by
    intro v b hvb
    rcases he2 with ⟨q1, q2⟩ | ⟨rr, clock, q1, q2⟩
    · subst q2
      cases r' with
      | none => simp only [Prod.mk.injEq] at hvb; obtain ⟨rfl, rfl⟩ := hvb; simp [execOp, ho, q1, Instr.lookup, run_underlying hd, hchk, f1, hv0]
      | some p => obtain ⟨i, v'⟩ := p; simp only [Prod.mk.injEq] at hvb; obtain ⟨rfl, rfl⟩ := hvb; simp [execOp, ho, q1, Instr.lookup, run_underlying hd, hchk, f1]
    · cases r' with
      | none => simp only [Prod.mk.injEq] at hvb; obtain ⟨rfl, rfl⟩ := hvb; simp [execOp, ho, q1, Instr.lookup, run_underlying hd, hchk, f1, hv0, getObj, Sem.run, q2]
      | some p => obtain ⟨i, v'⟩ := p; simp only [Prod.mk.injEq] at hvb; obtain ⟨rfl, rfl⟩ := hvb; simp [execOp, ho, q1, Instr.lookup, run_underlying hd, hchk, f1, getObj, Sem.run, q2]
  cases r with
  | none =>
    simp only [FindRel] at f2
    subst f2
    refine sim_val k (hrun v0 false rfl) ?_
    cases ok
    · exact hrel ρ
    · exact ⟨[v0, .bool false], rfl, v0, [.bool false], rfl, hrel ρ, .bool false, [], rfl, by simp [VR], by simp [VRs]⟩
  | some p =>
    obtain ⟨i, v⟩ := p
    simp only [FindRel] at f2
    obtain ⟨v', rfl, f3⟩ := f2
    refine sim_val k (hrun v' true rfl) ?_
    cases ok
    · exact f3
    · exact ⟨[v', .bool true], rfl, v', [.bool true], rfl, f3, .bool true, [], rfl, by simp [VR], by simp [VRs]⟩

/-- A map is written on both sides. -/
theorem stp_map (k : HR ρ B h w) {r : Nat} {m : Pl} (hm : ρ r = some m) {ver clock clock1 : Nat} {es es1 : List (IV × IV × Nat)} {es1' : List MapEntry} (hg : h.get r = .map ver es clock) (he : ERs ρ es1 es1') :
    Stp ρ ρ B h (h.write r (.map (ver + 1) es1 clock1)) w { w with heap := w.heap.setIfInBounds m.blk (.map es1'.toArray clock1) } := by
  have hor := k.obj r m hm
  rw [hg] at hor
  obtain ⟨es', q1, q2, q3⟩ := hor
  exact stp_write k r m hm (.map (ver + 1) es1 clock1) (.map es1'.toArray clock1) (by rw [hg]; rfl) (by rw [hg]; exact Nat.lt_succ_self _) q3 ⟨es1', rfl, he, q3⟩ _ rfl

theorem run_setMap {r : Nat} {es : List MapEntry} {c : Nat} (o : Obj) (hr : w.heap[r]? = some (.map es.toArray c)) : (setObj r o).run P w = .ok () { w with heap := w.heap.setIfInBounds r o } := by
  simp [setObj, Sem.run, hr]

theorem run_getMap {r : Nat} {es : List MapEntry} {c : Nat} (hr : w.heap[r]? = some (.map es.toArray c)) : (getObj r).run P w = .ok (.map es.toArray c) w := by
  simp [getObj, Sem.run, hr]

theorem find_index {kv : IV} : ∀ {es : List (IV × IV × Nat)} {i j : Nat} {v : IV}, findI kv es i = some (some (j, v)) → ∃ e, i ≤ j ∧ es[j - i]? = some e ∧ e.1 = kv ∧ e.2.1 = v
  | [], i, j, v, hf => by simp [findI] at hf
  | x :: xs, i, j, v, hf => by
    simp only [findI] at hf
    split at hf <;> (try cases hf)
    · rename_i hq
      refine ⟨x, Nat.le_refl _, by simp, (keyEq_true hq).symm, rfl⟩
    · obtain ⟨e, h1, h2, h3⟩ := find_index hf
      refine ⟨e, by omega, ?_, h3⟩
      have : j - i = (j - (i + 1)) + 1 := by omega
      rw [this]
      simpa using h2

theorem stays_one {kt : TypeId} {kv : IV} (hc : KeyCase P T kt kv) {u v : Value} (hu : VR ρ kv u) (hv : VR ρ kv v) : (Instr.keyThatStays u v).run P w = .ok v w := by
  have := key_one hc hu hv
  subst this
  simp [Instr.keyThatStays, same_one hc hu]

theorem modify_toArray {α : Type} (l : List α) (i : Nat) (f : α → α) : l.toArray.modify i f = (l.modify i f).toArray := by
  apply Array.ext'
  simp

theorem sim_mapUpdate (hT : TabsOk P T) (hf : FR ρ fr a) (k : HR ρ B h w) {t : TypeId} {x y z : Operand} (ho : o.op = .mapUpdate t x y z) {r : INext} (hr : iop T fr o h = some r) : SimRes P o a ρ B h w r := by
  unfold iop at hr
  rw [ho] at hr
  simp only at hr
  split at hr <;> (try cases hr)
  rename_i ti b kv v hti hx hy hz
  have ex := ev_rel hf hx
  have ey := ev_rel hf hy
  have ez := ev_rel hf hz
  obtain ⟨d, hd, hok⟩ := (hT.ty _ _ hti).und
  split at hr <;> (try cases hr)
  rename_i kt e ver es clock hde hg
  rw [hde] at hok; simp only [TDok] at hok; subst hok
  split at hr <;> (try cases hr)
  rename_i hkey
  have hc := key_case hT hkey
  simp only [VR] at ex
  obtain ⟨m, hm, ex⟩ := ex
  have hor := k.obj b m hm
  rw [hg] at hor
  obtain ⟨es', q1, q2, q3⟩ := hor
  have hchk : (Instr.checkKey false 10000 kt (a.eval y)).run P w = .ok () w := check_rel hc ey false
  split at hr <;> (try cases hr)
  · rename_i i v1 hfind
    obtain ⟨r', f1, f2⟩ := find_rel (w := w) hT hc ey q2 hfind
    simp only [FindRel] at f2
    obtain ⟨v1', rfl, f3⟩ := f2
    obtain ⟨en, _, hen, hek, _⟩ := find_index hfind
    simp only [Nat.sub_zero] at hen
    obtain ⟨en', g1, g2, g3, g4⟩ := q2.get i en hen
    have hstay := stays_one (w := w) hc (by rw [← hek]; exact g2) ey
    have hes1 : ERs ρ (es.modify i fun e => (kv, v, e.2.2)) (es'.modify i fun e => { e with key := a.eval y, val := a.eval z }) := q2.modify i (fun x y _ _ _ _ h3 => ⟨ey, ez, h3⟩)
    refine ⟨_, ρ, ?_, stp_map k hm hg hes1⟩
    have hg1 : (es'.toArray)[i]? = some en' := by simpa using g1
    simp [execOp, ho, ex, Instr.mapUpdate, run_underlying hd, run_getMap q1, hchk, f1, g1, hstay, run_setMap _ q1, modify_toArray]
  · rename_i hfind
    obtain ⟨r', f1, f2⟩ := find_rel (w := w) hT hc ey q2 hfind
    simp only [FindRel] at f2
    subst f2
    refine ⟨_, ρ, ?_, stp_map k hm hg (q2.snoc (x := (kv, v, clock)) (y := { key := a.eval y, val := a.eval z, born := clock }) ey ez rfl)⟩
    simp [execOp, ho, ex, Instr.mapUpdate, run_underlying hd, run_getMap q1, hchk, f1, run_setMap _ q1]

theorem sim_mapEntry (hT : TabsOk P T) (hf : FR ρ fr a) (k : HR ρ B h w) {t : TypeId} {x y : Operand} (ho : o.op = .mapEntry t x y) {r : INext} (hr : iop T fr o h = some r) : SimRes P o a ρ B h w r := by
  unfold iop at hr
  rw [ho] at hr
  simp only at hr
  split at hr <;> (try cases hr)
  rename_i ti b kv hti hx hy
  have ex := ev_rel hf hx
  have ey := ev_rel hf hy
  obtain ⟨d, hd, hok⟩ := (hT.ty _ _ hti).und
  split at hr <;> (try cases hr)
  rename_i kt e ver es clock hde hg
  rw [hde] at hok; simp only [TDok] at hok; subst hok
  split at hr <;> (try cases hr)
  rename_i hkey
  split at hr <;> (try cases hr)
  rename_i te hte
  have hc := key_case hT hkey
  simp only [VR] at ex
  obtain ⟨m, hm, ex⟩ := ex
  have hor := k.obj b m hm
  rw [hg] at hor
  obtain ⟨es', q1, q2, q3⟩ := hor
  have hchk : (Instr.checkKey false 10000 kt (a.eval y)).run P w = .ok () w := check_rel hc ey false
  split at hr <;> (try cases hr)
  · rename_i i v1 hfind
    split at hr <;> (try cases hr)
    rename_i en hen
    obtain ⟨r', f1, f2⟩ := find_rel (w := w) hT hc ey q2 hfind
    simp only [FindRel] at f2
    obtain ⟨v1', rfl, f3⟩ := f2
    obtain ⟨en2, _, hen2, hek, _⟩ := find_index hfind
    simp only [Nat.sub_zero] at hen2
    rw [hen] at hen2
    injection hen2 with hen2
    subst hen2
    obtain ⟨en', g1, g2, g3, g4⟩ := q2.get i en hen
    have hstay := stays_one (w := w) hc (by rw [← hek]; exact g2) ey
    have hes1 : ERs ρ (es.modify i fun e => (kv, e.2.1, e.2.2)) (es'.modify i fun e => { e with key := a.eval y }) := q2.modify i (fun x y _ _ _ h2 h3 => ⟨ey, h2, h3⟩)
    refine ⟨.tuple #[v1', goInt en'.born], _, ρ, ?_, ?_, stp_map k hm hg hes1⟩
    · simp [execOp, ho, ex, Instr.mapEntry, run_underlying hd, run_getMap q1, hchk, f1, g1, hstay, run_setMap _ q1, modify_toArray]
    · exact ⟨[v1', goInt en'.born], rfl, v1', [goInt en'.born], rfl, f3, _, [], rfl, by simp only [VR]; rw [g4]; rfl, by simp [VRs]⟩
  · rename_i z hz hfind
    obtain ⟨r', f1, f2⟩ := find_rel (w := w) hT hc ey q2 hfind
    simp only [FindRel] at f2
    subst f2
    obtain ⟨v0, hv0, hrel⟩ := run_zero (hT.ty _ _ hte) hz
    refine ⟨.tuple #[v0, goInt clock], _, ρ, ?_, ?_, stp_map k hm hg (q2.snoc (x := (kv, z, clock)) (y := { key := a.eval y, val := v0, born := clock }) ey (hrel ρ) rfl)⟩
    · simp [execOp, ho, ex, Instr.mapEntry, run_underlying hd, run_getMap q1, hchk, f1, hv0, run_setMap _ q1]
    · exact ⟨[v0, goInt clock], rfl, v0, [goInt clock], rfl, hrel ρ, _, [], rfl, by simp only [VR]; rfl, by simp [VRs]⟩

theorem findIdx_rel (born : Int) : ∀ {es : List (IV × IV × Nat)} {es' : List MapEntry}, ERs ρ es es' → es'.findIdx? (fun e => (e.born : Int) == born) = es.findIdx? (fun e => (e.2.2 : Int) == born)
  | [], es', h => by simp only [ERs] at h; subst h; rfl
  | x :: xs, es', h => by
    simp only [ERs] at h
    obtain ⟨y, ys, rfl, _, _, h3, h4⟩ := h
    rw [List.findIdx?_cons, List.findIdx?_cons, h3, findIdx_rel born h4]

theorem sim_entryStore (hf : FR ρ fr a) (k : HR ρ B h w) {t : TypeId} {x y z : Operand} (ho : o.op = .entryStore t x y z) {r : INext} (hr : iop T fr o h = some r) : SimRes P o a ρ B h w r := by
  unfold iop at hr
  rw [ho] at hr
  simp only at hr
  split at hr <;> (try cases hr)
  rename_i b kk born v hx hy hz
  have ex := ev_rel hf hx
  have ey := ev_rel hf hy
  have ez := ev_rel hf hz
  split at hr <;> (try cases hr)
  rename_i ver es clock hg
  split at hr <;> (try cases hr)
  rename_i i hi
  simp only [VR] at ex ey
  obtain ⟨m, hm, ex⟩ := ex
  have hor := k.obj b m hm
  rw [hg] at hor
  obtain ⟨es', q1, q2, q3⟩ := hor
  have hidx : es'.toArray.findIdx? (fun e => (e.born : Int) == born) = some i := by
    rw [← hi, ← findIdx_rel born q2]
    simp
  have hes1 : ERs ρ (es.modify i fun e => (e.1, v, e.2.2)) (es'.modify i fun e => { e with val := a.eval z }) := q2.modify i (fun x y _ _ h1 _ h3 => ⟨h1, ez, h3⟩)
  refine ⟨_, ρ, ?_, stp_map k hm hg hes1⟩
  simp only [execOp, ho, ex, ey, Instr.entryStore, Sem.run_bind, run_getMap q1, Result.andThen_ok, asInt, asIntOf, Sem.run_pure, hidx, run_setMap _ q1, modify_toArray]

/-- Any operation. -/
theorem sim_op (hT : TabsOk P T) (hf : FR ρ fr a) (k : HR ρ B h w) {r : INext} (hr : iop T fr o h = some r) : SimRes P o a ρ B h w r := by
  cases ho : o.op with
  | move x => exact sim_move hf k ho hr
  | assign x => exact sim_assign hf k ho hr
  | pick c x y => exact sim_pick hf k ho hr
  | alloc t => exact sim_alloc hT k ho hr
  | box t x => exact sim_box hf k ho hr
  | build t ps => exact sim_build hT hf k ho hr
  | buildSlice t n ps => exact sim_buildSlice hT hf k ho hr
  | load t x => exact sim_load hT hf k ho hr
  | store t x y => exact sim_store hT hf k ho hr
  | nilCheck x => exact sim_nilCheck hf k ho hr
  | binOp op t x y t' => exact sim_binOp hT hf k ho hr
  | unOp op t x => exact sim_unOp hf k ho hr
  | convert s d x => exact sim_convert hT hf k ho hr
  | makeFunc fn f c => exact sim_makeFunc hf k ho hr
  | makeMap t x =>
    cases x with
    | none => exact sim_makeMap k ho hr
    | some x => unfold iop at hr; rw [ho] at hr; cases hr
  | makeSlice t x y => exact sim_makeSlice hT hf k ho hr
  | slice t x lo hi mx => exact sim_slice hT hf k ho hr
  | fieldAddr t x f => exact sim_fieldAddr hT hf k ho hr
  | field t x f => exact sim_field hT hf k ho hr
  | indexAddr t x i => exact sim_indexAddr hT hf k ho hr
  | index t x i => exact sim_index hT hf k ho hr
  | lookup t x y ok => exact sim_lookup hT hf k ho hr
  | mapUpdate t x y z => exact sim_mapUpdate hT hf k ho hr
  | mapEntry t x y => exact sim_mapEntry hT hf k ho hr
  | entryStore t x y z => exact sim_entryStore hf k ho hr
  | extract x i => exact sim_extract hf k ho hr
  | call c => exact sim_call hT hf k ho hr
  | _ => unfold iop at hr; rw [ho] at hr; cases hr

end
end Go.Ae
