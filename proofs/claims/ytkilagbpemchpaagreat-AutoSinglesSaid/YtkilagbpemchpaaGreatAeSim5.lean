/-
  The operations on the ideal heap are the machine's: aggregates, slices that are made, cuts.
-/
import Derived.Test.YtkilagbpemchpaaGreatAeSim4
set_option linter.unusedVariables false
set_option linter.unusedSimpArgs false
namespace Go.Ae
open Go Go.RowKit

section
variable {P : Program} {T : Tabs} {fr : Tr IV} {o : Oper} {h : IH} {ρ : Ren} {B : Nat} {a : Act} {w : World}

theorem foldl_set (off : Nat) : ∀ (l : List Value) (k : Nat) (arr : Array Value), off + k + l.length ≤ arr.size →
    ((l.zipIdx k).foldl (fun cs (x : Value × Nat) => cs.setIfInBounds (off + x.2) x.1) arr) = (arr.toList.take (off + k) ++ l ++ arr.toList.drop (off + k + l.length)).toArray
  | [], k, arr, _ => by simp
  | x :: l, k, arr, hl => by
    simp only [List.length_cons] at hl
    rw [List.zipIdx_cons, List.foldl_cons]
    rw [foldl_set off l (k + 1) (arr.setIfInBounds (off + k) x) (by simp; omega)]
    congr 1
    have e := list_seg_step arr.toList (off + k) x l (by simp; omega)
    rw [Array.toList_setIfInBounds]
    simpa [Nat.add_assoc] using e

theorem fill_rel {place : Nat → Option (Nat × Nat)} : ∀ {l : List (Nat × IV)} {l' : List (Nat × Value)} {cells : List IV} {cells' : Array Value} {cs : List IV},
    l.length = l'.length → (∀ (i : Nat) x y, l[i]? = some x → l'[i]? = some y → x.1 = y.1 ∧ VR ρ x.2 y.2) → VRs ρ cells cells'.toList → fillI place cells l = some cs →
    ∃ cs', Instr.fill place cells' l' = some cs' ∧ VRs ρ cs cs'.toList
  | [], [], cells, cells', cs, _, _, hc, hf => by
    simp only [fillI, Option.some.injEq] at hf
    subst hf
    exact ⟨cells', rfl, hc⟩
  | [], y :: l', _, _, _, hl, _, _, _ => by simp at hl
  | x :: l, [], _, _, _, hl, _, _, _ => by simp at hl
  | (i, v) :: l, (i', v') :: l', cells, cells', cs, hl, hrel, hc, hf => by
    have h0 := hrel 0 (i, v) (i', v') rfl rfl
    obtain ⟨hi, hv⟩ := h0
    simp only at hi hv
    subst hi
    simp only [fillI] at hf
    split at hf <;> (try cases hf)
    rename_i off size hp
    split at hf <;> (try cases hf)
    rename_i hs
    split at hf <;> (try cases hf)
    rename_i hfit
    have hvc := hv.cells
    have hvl := hvc.length
    have hcl := hc.length
    rw [Array.length_toList] at hvl hcl
    have e1 : ¬ (v'.cells.size ≠ size || off + v'.cells.size > cells'.size) = true := by simp; omega
    have e2 := foldl_set off v'.cells.toList 0 cells' (by simp; omega)
    have e3 : v'.cells.zipIdx.foldl (fun cs (x : Value × Nat) => cs.setIfInBounds (off + x.2) x.1) cells' = (cells'.toList.take off ++ v'.cells.toList ++ cells'.toList.drop (off + v'.cells.toList.length)).toArray := by
      rw [← Array.foldl_toList, Array.toList_zipIdx]
      simpa using e2
    have hc2 : VRs ρ (splice cells off v.cells) ((cells'.toList.take off ++ v'.cells.toList ++ cells'.toList.drop (off + v'.cells.toList.length)).toArray).toList := by
      unfold splice
      rw [List.toList_toArray, List.append_assoc]
      have := (hc.take off).append (hvc.append (hc.drop (off + v.cells.length)))
      have e4 : v'.cells.toList.length = v.cells.length := by rw [Array.length_toList]; exact hvl
      rw [e4]
      exact this
    obtain ⟨cs', r1, r2⟩ := fill_rel (l := l) (l' := l') (by simpa using hl) (fun j x y hx hy => hrel (j + 1) x y (by simpa using hx) (by simpa using hy)) hc2 hf
    refine ⟨cs', ?_, r2⟩
    simp only [Instr.fill, hp]
    rw [if_neg e1]
    rw [← r1]
    congr 1

theorem parts_rel (hf : FR ρ fr a) : ∀ {ps : List (Nat × Operand)} {l : List (Nat × IV)}, parts fr ps = some l →
    l.length = (ps.map fun (i, x) => (i, a.eval x)).length ∧ ∀ (i : Nat) x y, l[i]? = some x → (ps.map fun (i, x) => (i, a.eval x))[i]? = some y → x.1 = y.1 ∧ VR ρ x.2 y.2
  | [], l, h => by simp only [parts, Option.some.injEq] at h; subst h; exact ⟨rfl, by simp⟩
  | (i, x) :: ps, l, h => by
    simp only [parts] at h
    split at h <;> (try cases h)
    rename_i v hv
    split at h <;> (try cases h)
    rename_i l0 hl0
    obtain ⟨h1, h2⟩ := parts_rel hf hl0
    refine ⟨by simp [h1], fun j p q hp hq => ?_⟩
    cases j with
    | zero =>
      simp at hp hq
      subst hp hq
      exact ⟨rfl, ev_rel hf hv⟩
    | succ j => exact h2 j p q (by simpa using hp) (by simpa using hq)

theorem replicate_cells {z : IV} {v : Value} (hz : ∀ ρ, VR ρ z v) (n : Nat) : ∃ l : List Value, (Array.range (n * v.cells.size)).map (v.cells[· % v.cells.size]!) = l.toArray ∧ VRs ρ (List.replicate n z.cells).flatten l ∧ l.length = n * v.cells.size := by
  refine ⟨(List.replicate n v.cells.toList).flatten, ?_, ?_, ?_⟩
  · apply Array.ext_getElem?
    intro j
    simp only [Array.getElem?_map, Array.getElem?_range, List.getElem?_toArray]
    by_cases hj : j < n * v.cells.size
    · rw [if_pos hj]
      have hpos : 0 < v.cells.size := by
        rcases Nat.eq_zero_or_pos v.cells.size with h0 | h0
        · rw [h0] at hj; omega
        · exact h0
      have hmod : j % v.cells.size < v.cells.size := Nat.mod_lt _ hpos
      simp only [Option.map_some]
      rw [getElem!_pos v.cells _ hmod]
      have : ∀ (n j : Nat), j < n * v.cells.size → ((List.replicate n v.cells.toList).flatten)[j]? = v.cells[j % v.cells.size]? := by
        intro n
        induction n with
        | zero => intro j hj; omega
        | succ n ih =>
          intro j hj
          rw [List.replicate_succ, List.flatten_cons, List.getElem?_append]
          rw [Array.length_toList]
          by_cases c : j < v.cells.size
          · rw [if_pos c, Nat.mod_eq_of_lt c, Array.getElem?_toList]
          · rw [if_neg c, ih (j - v.cells.size) (by rw [Nat.succ_mul] at hj; omega)]
            congr 1
            conv => rhs; rw [show j = (j - v.cells.size) + v.cells.size by omega, Nat.add_mod_right]
      rw [this n j hj, Array.getElem?_eq_getElem hmod]
    · rw [if_neg hj]
      symm
      apply List.getElem?_eq_none
      simp
      omega
  · have : ∀ n, VRs ρ (List.replicate n z.cells).flatten (List.replicate n v.cells.toList).flatten := by
      intro n
      induction n with
      | zero => simp [VRs]
      | succ n ih => rw [List.replicate_succ, List.replicate_succ, List.flatten_cons, List.flatten_cons]; exact (hz ρ).cells.append ih
    exact this n
  · simp

theorem run_listMapM {α β : Type} (g : α → Sem β) (p : α → β) : ∀ (l : List α), (∀ x ∈ l, ∀ w, (g x).run P w = .ok (p x) w) → (l.mapM g).run P w = .ok (l.map p) w
  | [], _ => by simp
  | x :: l, hx => by
    have ih := run_listMapM g p l (fun y hy => hx y (by simp [hy]))
    simp only [List.mapM_cons, Sem.run_bind, hx x (by simp), Result.andThen_ok, ih, Sem.run_pure, List.map_cons]

theorem run_arrayMapM {α β : Type} (g : α → Sem β) (p : α → β) (l : Array α) (hx : ∀ x ∈ l.toList, ∀ w, (g x).run P w = .ok (p x) w) : (l.mapM g).run P w = .ok (l.map p) w := by
  rw [Array.mapM_eq_mapM_toList, Sem.run_map, run_listMapM g p l.toList hx, Result.andThen_ok]
  congr 1
  apply Array.ext'
  simp

theorem range_cells {z : IV} {v : Value} (hz : ∀ ρ, VR ρ z v) {size : Nat} (hsz : z.cells.length = size) (n : Nat) :
    ∃ l : List Value, (Array.range (n * size)).map ((if n * size = 0 then #[] else v.cells)[· % (if n * size = 0 then #[] else v.cells).size]!) = l.toArray ∧ VRs ρ (List.replicate n z.cells).flatten l ∧ l.length = n * size := by
  have hvs : v.cells.size = size := by have := (hz ρ).cells.length; rw [Array.length_toList] at this; omega
  obtain ⟨l, h1, h2, h3⟩ := replicate_cells (ρ := ρ) hz n
  rw [hvs] at h1 h3
  refine ⟨l, ?_, h2, h3⟩
  by_cases h0 : n * size = 0
  · rw [h0] at h3 ⊢
    rw [List.eq_nil_of_length_eq_zero h3]
    simp
  · rw [if_neg h0, hvs]
    exact h1

theorem sim_build (hT : TabsOk P T) (hf : FR ρ fr a) (k : HR ρ B h w) {t : TypeId} {ps : Array (Nat × Operand)} (ho : o.op = .build t ps) {r : INext} (hr : iop T fr o h = some r) : SimRes P o a ρ B h w r := by
  unfold iop at hr
  rw [ho] at hr
  simp only at hr
  split at hr <;> (try cases hr)
  rename_i ti l hti hl
  split at hr <;> (try cases hr)
  rename_i z hz
  obtain ⟨v, hv, hrel⟩ := run_zero (hT.ty _ _ hti) hz
  obtain ⟨d, hd, hok⟩ := (hT.ty _ _ hti).und
  obtain ⟨p1, p2⟩ := parts_rel hf hl
  split at hr <;> (try cases hr)
  · rename_i fs hfs
    rw [hfs] at hok
    simp only [TDok] at hok
    obtain ⟨fa, rfl, hmap⟩ := hok
    simp only [Option.map_eq_some_iff] at hr
    obtain ⟨cs, hcs, rfl⟩ := hr
    obtain ⟨cs', c1, c2⟩ := fill_rel (ρ := ρ) p1 p2 (hrel ρ).cells hcs
    have hall : ∀ f ∈ fa.toList, ∃ j, T.ty f.type = some j := fun f hfm => by
      have := hT.fld t ti fs hti hfs (f.offset, f.type) (by rw [← hmap]; exact List.mem_map.2 ⟨f, hfm, rfl⟩)
      exact this
    have hplaces : (fa.mapM fun f => do pure (f.offset, ← sizeOf f.type) : Sem (Array (Nat × Nat))).run P w = .ok (fa.map fun f => (f.offset, ((T.ty f.type).map TI.size).getD 0)) w := by
      refine run_arrayMapM _ _ fa (fun f hfm w => ?_)
      obtain ⟨j, hj⟩ := hall f hfm
      simp [run_sizeOf (hT.ty _ _ hj), hj]
    have hfun : (fun i => (fa.map fun f => (f.offset, ((T.ty f.type).map TI.size).getD 0))[i]?) = placeOf T fs := by
      funext i
      unfold placeOf
      rw [← hmap, List.getElem?_map, Array.getElem?_toList, Array.getElem?_map]
      cases hfi : fa[i]? with
      | none => rfl
      | some f =>
        obtain ⟨j, hj⟩ := hall f (by rw [← Array.getElem?_toList] at hfi; exact List.mem_of_getElem? hfi)
        simp [hj]
    refine sim_val k (v := .agg cs') ?_ ⟨cs'.toList, by simp, c2⟩
    have hpl : (ps.map fun (i, x) => (i, a.eval x)).toList = ps.toList.map fun (i, x) => (i, a.eval x) := by simp
    simp only [execOp, ho, Instr.build, Sem.run_bind, hv, Result.andThen_ok, run_underlying hd, hplaces]
    rw [hfun, hpl, c1]
    simp
  · rename_i n e hde
    rw [hde] at hok
    simp only [TDok] at hok
    subst hok
    split at hr <;> (try cases hr)
    rename_i te hte
    simp only [Option.map_eq_some_iff] at hr
    obtain ⟨cs, hcs, rfl⟩ := hr
    obtain ⟨cs', c1, c2⟩ := fill_rel (ρ := ρ) p1 p2 (hrel ρ).cells hcs
    refine sim_val k (v := .agg cs') ?_ ⟨cs'.toList, by simp, c2⟩
    have hpl : (ps.map fun (i, x) => (i, a.eval x)).toList = ps.toList.map fun (i, x) => (i, a.eval x) := by simp
    simp only [execOp, ho, Instr.build, Sem.run_bind, hv, Result.andThen_ok, run_underlying hd, run_sizeOf (hT.ty _ _ hte)]
    rw [hpl, c1]
    simp

theorem sim_buildSlice (hT : TabsOk P T) (hf : FR ρ fr a) (k : HR ρ B h w) {t : TypeId} {len : Nat} {ps : Array (Nat × Operand)} (ho : o.op = .buildSlice t len ps) {r : INext} (hr : iop T fr o h = some r) : SimRes P o a ρ B h w r := by
  unfold iop at hr
  rw [ho] at hr
  simp only at hr
  split at hr <;> (try cases hr)
  rename_i ti l hti hl
  obtain ⟨p1, p2⟩ := parts_rel hf hl
  obtain ⟨d, hd, hok⟩ := (hT.ty _ _ hti).und
  split at hr <;> (try cases hr)
  rename_i e hde
  rw [hde] at hok
  simp only [TDok] at hok
  subst hok
  split at hr <;> (try cases hr)
  rename_i te hte
  split at hr <;> (try cases hr)
  rename_i z hz
  split at hr <;> (try cases hr)
  rename_i hlim
  split at hr <;> (try cases hr)
  rename_i cs hcs
  split at hr <;> (try cases hr)
  rename_i hone
  obtain ⟨v, hv, hrel⟩ := run_zero (hT.ty _ _ hte) hz
  have hzs := hT.zs _ _ _ hte hz
  obtain ⟨lz, z1, z2, z3⟩ := range_cells (ρ := ρ) hrel hzs len
  obtain ⟨cs', c1, c2⟩ := fill_rel (ρ := ρ) (cells' := lz.toArray) p1 p2 (by simpa using z2) hcs
  have hcsl : cs'.size = len * te.size := by
    have : ∀ {place : Nat → Option (Nat × Nat)} (l : List (Nat × Value)) (c r : Array Value), Instr.fill place c l = some r → r.size = c.size := by
      intro place l
      induction l with
      | nil => intro c r h; simp only [Instr.fill, Option.some.injEq] at h; rw [h]
      | cons x l ih =>
        intro c r h
        obtain ⟨i, v⟩ := x
        simp only [Instr.fill] at h
        split at h <;> (try cases h)
        split at h <;> (try cases h)
        rw [ih _ _ h]
        have : ∀ (xs : List (Value × Nat)) (f : Nat) (c : Array Value), (xs.foldl (fun cs (x : Value × Nat) => cs.setIfInBounds (f + x.2) x.1) c).size = c.size := by
          intro xs f
          induction xs with
          | nil => intro c; rfl
          | cons x xs ih => intro c; rw [List.foldl_cons, ih]; simp
        rw [← Array.foldl_toList]
        exact this _ _ _
    rw [this _ _ _ c1]
    simp [z3]
  have hst := stp_news (k := k) e (cs' := cs'.toList) c2
  refine ⟨.slice (some ⟨w.heap.size, 0, none⟩) len len, _, _, ?_, ?_, hst⟩
  · have hpl : (ps.map fun (i, x) => (i, a.eval x)).toList = ps.toList.map fun (i, x) => (i, a.eval x) := by simp
    have hlim' : ¬ len * te.size > 2 ^ 24 := by omega
    by_cases h0 : len * te.size = 0
    · rw [if_pos h0] at z1
      simp only [execOp, ho, Instr.buildSlice, Sem.run_bind, run_underlying hd, Result.andThen_ok, run_sizeOf (hT.ty _ _ hte), h0, show ¬ (0 > 2 ^ 24) by omega, if_false, if_true, Sem.run_pure]
      rw [h0] at z1
      rw [z1, hpl, c1]
      simp [newRow]
    · rw [if_neg h0] at z1
      simp only [execOp, ho, Instr.buildSlice, Sem.run_bind, run_underlying hd, Result.andThen_ok, run_sizeOf (hT.ty _ _ hte), hlim', if_false, h0, Sem.run_pure, hv]
      rw [z1, hpl, c1]
      simp [newRow]
  · refine ⟨_, len, 0, Ren.add_same _ _ _, rfl, Nat.le_refl _, Nat.le_refl _, .inl ⟨rfl, ?_⟩⟩
    simp [hcsl]

theorem sim_makeSlice (hT : TabsOk P T) (hf : FR ρ fr a) (k : HR ρ B h w) {t : TypeId} {x y : Operand} (ho : o.op = .makeSlice t x y) {r : INext} (hr : iop T fr o h = some r) : SimRes P o a ρ B h w r := by
  unfold iop at hr
  rw [ho] at hr
  simp only at hr
  split at hr <;> (try cases hr)
  rename_i ti k1 n k2 n2 hti hx hy
  split at hr <;> (try cases hr)
  rename_i e hde
  obtain ⟨d, hd, hok⟩ := (hT.ty _ _ hti).und
  rw [hde] at hok
  simp only [TDok] at hok
  subst hok
  split at hr <;> (try cases hr)
  rename_i te hte
  split at hr <;> (try cases hr)
  rename_i z hz
  split at hr <;> (try cases hr)
  rename_i hnm
  subst hnm
  split at hr <;> (try cases hr)
  rename_i h0
  split at hr <;> (try cases hr)
  rename_i hby
  split at hr <;> (try cases hr)
  rename_i hmax
  split at hr <;> (try cases hr)
  rename_i hone
  split at hr <;> (try cases hr)
  rename_i hzl
  obtain ⟨v, hv, hrel⟩ := run_zero (hT.ty _ _ hte) hz
  obtain ⟨f, hf1, hf2, hf3, _⟩ := (hT.ty _ _ hte).info
  obtain ⟨lz, z1, z2, z3⟩ := range_cells (ρ := ρ) hrel hzl n.toNat
  have ex := ev_rel hf hx
  have ey := ev_rel hf hy
  simp only [VR] at ex ey
  have hwrap : IntKind.i64.wrap n = n := by
    have e1 : (2 : Int) ^ IntKind.i64.bits = 18446744073709551616 := by decide
    have e2 : (2 : Int) ^ (IntKind.i64.bits - 1) = 9223372036854775808 := by decide
    unfold IntKind.wrap
    simp only [e1, e2, IntKind.signed]
    have : n % 18446744073709551616 = n := by omega
    rw [this]
    simp
    omega
  have hst := stp_news (k := k) e (cs' := lz) z2
  have htl : (decide (n < 0) || decide ((f.bytes : Int) * n > 2 ^ 48)) = false := by
    rw [hf3]
    simp
    omega
  have hti' : ∀ w, (typeInfo e).run P w = .ok f w := fun w => by simp [typeInfo, hf1]
  refine ⟨.slice (some ⟨w.heap.size, 0, none⟩) n.toNat n.toNat, _, _, ?_, ?_, hst⟩
  · have hcond : ((decide (n < 0) || decide ((f.bytes : Int) * n > 2 ^ 48)) || decide (n < 0) || decide (n > n)) = false := by rw [htl]; simp; omega
    by_cases h0 : n.toNat * te.size = 0
    · rw [if_pos h0] at z1
      simp only [execOp, ho, ex, ey, Instr.makeSlice, Sem.run_bind, run_underlying hd, Result.andThen_ok, asInt, asIntOf, Sem.run_pure, hti', hwrap, hcond, Bool.false_eq_true, if_false, run_askRoom, run_sizeOf (hT.ty _ _ hte), h0, if_true]
      rw [h0] at z1
      rw [z1]
      simp [newRow]
    · rw [if_neg h0] at z1
      simp only [execOp, ho, ex, ey, Instr.makeSlice, Sem.run_bind, run_underlying hd, Result.andThen_ok, asInt, asIntOf, Sem.run_pure, hti', hwrap, hcond, Bool.false_eq_true, if_false, run_askRoom, run_sizeOf (hT.ty _ _ hte), h0, hv]
      rw [z1]
      simp [newRow]
  · refine ⟨_, n.toNat, 0, Ren.add_same _ _ _, rfl, Nat.le_refl _, Nat.le_refl _, .inl ⟨rfl, ?_⟩⟩
    simp [z3]

end
end Go.Ae
