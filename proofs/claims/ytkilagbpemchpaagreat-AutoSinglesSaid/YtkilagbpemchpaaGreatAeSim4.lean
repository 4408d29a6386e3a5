/-
  The operations on the ideal heap are the machine's: addresses, loads, stores, new blocks.
-/
import Derived.Test.YtkilagbpemchpaaGreatAeSim3
set_option linter.unusedVariables false
set_option linter.unusedSimpArgs false
namespace Go.Ae
open Go Go.RowKit

section
variable {P : Program} {T : Tabs} {fr : Tr IV} {o : Oper} {h : IH} {ρ : Ren} {B : Nat} {a : Act} {w : World}

/-- New cells on both sides. -/
theorem stp_news (k : HR ρ B h w) {cs : List IV} {cs' : List Value} (e : TypeId) (hr : VRs ρ cs cs') :
    Stp ρ (ρ.add h.n ⟨w.heap.size, 0, cs'.length⟩) B h (h.news cs) w { w with heap := w.heap.push (.cells cs'.toArray e (0, 0)) } := by
  have hnew : ρ h.n = none := by
    cases e : ρ h.n with
    | none => rfl
    | some m => exact absurd (k.dom _ _ e).1 (Nat.lt_irrefl _)
  refine stp_alloc k _ _ cs'.length ⟨cs', e, (0, 0), rfl, rfl, ?_, fun _ => ⟨rfl, k.base⟩⟩
  rw [List.drop_zero, ← hr.length, List.take_length]
  exact VRs.mono (Ren.le_add ρ h.n _ hnew) _ _ hr

theorem sim_alloc (hT : TabsOk P T) (k : HR ρ B h w) {t : TypeId} (ho : o.op = .alloc t) {r : INext} (hr : iop T fr o h = some r) : SimRes P o a ρ B h w r := by
  unfold iop at hr
  rw [ho] at hr
  simp only at hr
  split at hr <;> (try cases hr)
  rename_i ti hti
  split at hr <;> (try cases hr)
  rename_i z hz
  split at hr <;> (try cases hr)
  rename_i hone
  obtain ⟨v, hv, hrel⟩ := run_zero (hT.ty _ _ hti) hz
  refine ⟨.pointer (some ⟨w.heap.size, 0, none⟩), _, _, ?_, ?_, stp_news k t (hrel ρ).cells⟩
  · simp [execOp, ho, Instr.alloc, hv, newVar, newRow]
  · simp [VR, Ren.add_same]

theorem sim_box (hf : FR ρ fr a) (k : HR ρ B h w) {t : TypeId} {x : Operand} (ho : o.op = .box t x) {r : INext} (hr : iop T fr o h = some r) : SimRes P o a ρ B h w r := by
  unfold iop at hr
  rw [ho] at hr
  simp only at hr
  split at hr <;> (try cases hr)
  rename_i v hx
  split at hr <;> (try cases hr)
  rename_i hone
  have e := ev_rel hf hx
  refine ⟨.pointer (some ⟨w.heap.size, 0, none⟩), _, _, ?_, ?_, stp_news k t e.cells⟩
  · simp [execOp, ho, Instr.box, newVar, newRow]
  · simp [VR, Ren.add_same]

theorem asVal_rel {agg : Bool} {l : List IV} {v : IV} (hv : asVal agg l = some v) {l' : List Value} (hl : VRs ρ l l') : if agg then VR ρ v (.agg l'.toArray) else ∃ y, l' = [y] ∧ VR ρ v y := by
  unfold asVal at hv
  split at hv
  · rename_i ha
    injection hv with hv; subst hv
    rw [if_pos ha]
    exact ⟨l', rfl, hl⟩
  · rename_i ha
    rw [if_neg ha]
    split at hv <;> (try cases hv)
    simp only [VRs] at hl
    obtain ⟨y, ys, rfl, h1, h2⟩ := hl
    subst h2
    exact ⟨y, rfl, h1⟩

theorem sim_load (hT : TabsOk P T) (hf : FR ρ fr a) (k : HR ρ B h w) {t : TypeId} {x : Operand} (ho : o.op = .load t x) {r : INext} (hr : iop T fr o h = some r) : SimRes P o a ρ B h w r := by
  unfold iop at hr
  rw [ho] at hr
  simp only at hr
  split at hr <;> (try cases hr)
  rename_i ti b off hti hx
  split at hr <;> (try cases hr)
  rename_i l hl
  simp only [Option.map_eq_some_iff] at hr
  obtain ⟨v, hv, rfl⟩ := hr
  have e := ev_rel hf hx
  simp only [VR] at e
  obtain ⟨m, hm, e⟩ := e
  obtain ⟨l', r1, r2, r3, r4⟩ := load_rel (P := P) k hm hl
  have hA := run_isAgg (hT.ty _ _ hti)
  have hS := run_sizeOf (hT.ty _ _ hti)
  have hrel := asVal_rel hv r2
  cases hagg : ti.d.agg with
  | true =>
    rw [hagg] at r1 hrel
    simp only [if_true] at r1 hrel
    exact sim_val k (by simp [execOp, ho, e, Instr.loadAt, Instr.sureAddr, loadVar, hA, hagg, hS, r1]) hrel
  | false =>
    rw [hagg] at hrel
    obtain ⟨y, rfl, hy⟩ := by simpa using hrel
    have hc := r4 0 y rfl
    simp only [Nat.add_zero] at hc
    exact sim_val k (by simp [execOp, ho, e, Instr.loadAt, Instr.sureAddr, loadVar, hA, hagg, hc]) hy

theorem sim_store (hT : TabsOk P T) (hf : FR ρ fr a) (k : HR ρ B h w) {t : TypeId} {x y : Operand} (ho : o.op = .store t x y) {r : INext} (hr : iop T fr o h = some r) : SimRes P o a ρ B h w r := by
  unfold iop at hr
  rw [ho] at hr
  simp only at hr
  split at hr <;> (try cases hr)
  rename_i ti b off v hti hx hy
  split at hr <;> (try cases hr)
  rename_i hlen
  simp only [Option.map_eq_some_iff] at hr
  obtain ⟨h1, hs, rfl⟩ := hr
  have ex := ev_rel hf hx
  have ey := ev_rel hf hy
  simp only [VR] at ex
  obtain ⟨m, hm, e⟩ := ex
  obtain ⟨w1, s1, s2⟩ := store_rel (P := P) k hm ey.cells hs
  have hS := run_sizeOf (hT.ty _ _ hti)
  have hl : (a.eval y).cells.size = ti.size := by have := ey.cells.length; rw [Array.length_toList] at this; omega
  exact ⟨w1, ρ, by simp [execOp, ho, e, Instr.storeAt, Instr.sureAddr, storeVar, hS, hl, s1], s2⟩

theorem sim_fieldAddr (hT : TabsOk P T) (hf : FR ρ fr a) (k : HR ρ B h w) {t : TypeId} {x : Operand} {f : Nat} (ho : o.op = .fieldAddr t x f) {r : INext} (hr : iop T fr o h = some r) : SimRes P o a ρ B h w r := by
  unfold iop at hr
  rw [ho] at hr
  simp only at hr
  split at hr <;> (try cases hr)
  rename_i ti b off hti hx
  split at hr <;> (try cases hr)
  rename_i foff ft hfield
  split at hr <;> (try cases hr)
  rename_i t1i ht1
  split at hr <;> (try cases hr)
  rename_i hne
  have e := ev_rel hf hx
  simp only [VR] at e
  obtain ⟨m, hm, e⟩ := e
  obtain ⟨d, hd, hok⟩ := (hT.ty _ _ hti).und
  unfold fieldI at hfield
  split at hfield <;> (try cases hfield)
  rename_i fs hfs
  rw [hfs] at hok
  simp only [TDok] at hok
  obtain ⟨fa, rfl, hmap⟩ := hok
  have hfl : (fa.toList.map fun f => (f.offset, f.type))[f]? = some (foff, ft) := by rw [hmap]; exact hfield
  rw [List.getElem?_map, Option.map_eq_some_iff] at hfl
  obtain ⟨fl, hfl, hfe⟩ := hfl
  simp only [Prod.mk.injEq] at hfe
  have hfa : fa[f]? = some fl := by rw [← Array.getElem?_toList]; exact hfl
  have hS := run_sizeOf (hT.ty _ _ ht1)
  rw [← hfe.2] at hS
  refine sim_val k (v := .pointer (some ⟨m.blk, m.sh + off + foff, none⟩)) ?_ ⟨m, hm, by rw [Nat.add_assoc]⟩
  simp [execOp, ho, e, Instr.fieldAt, run_underlying hd, hfa, Instr.sureAddr, fieldPlace, hS, hne, addr_add, hfe.1]

theorem part_rel (hT : TabsOk P T) {t : TypeId} {ti : TI} (hti : T.ty t = some ti) {cs : List IV} {off : Nat} {v : IV} (hv : partI ti.d.agg cs off (if ti.d.agg then ti.size else 1) = some v) {cs' : List Value} (hc : VRs ρ cs cs') :
    ∃ v', (part t cs'.toArray off).run P w = .ok v' w ∧ VR ρ v v' := by
  have hA := run_isAgg (hT.ty _ _ hti)
  have hS := run_sizeOf (hT.ty _ _ hti)
  have hrel : if ti.d.agg then VR ρ v (.agg (((cs'.drop off).take (if ti.d.agg then ti.size else 1))).toArray) else ∃ y, ((cs'.drop off).take (if ti.d.agg then ti.size else 1)) = [y] ∧ VR ρ v y := by
    revert hv
    generalize (if ti.d.agg then ti.size else 1) = sz
    intro hv
    unfold partI at hv
    split at hv <;> (try cases hv)
    exact asVal_rel hv ((hc.drop off).take sz)
  cases hagg : ti.d.agg with
  | true =>
    rw [hagg] at hrel
    simp only [if_true] at hrel
    refine ⟨_, ?_, hrel⟩
    simp [part, hA, hagg, hS, List.extract_eq_take_drop]
  | false =>
    rw [hagg] at hrel
    obtain ⟨y, hy, hr⟩ := by simpa using hrel
    have hoff : cs'[off]? = some y := by
      have : ((cs'.drop off).take 1)[0]? = some y := by rw [hy]; rfl
      rw [take_drop_get _ _ _ _ (by omega)] at this
      simpa using this
    exact ⟨y, by simp [part, hA, hagg, hoff], hr⟩

theorem sim_field (hT : TabsOk P T) (hf : FR ρ fr a) (k : HR ρ B h w) {t : TypeId} {x : Operand} {f : Nat} (ho : o.op = .field t x f) {r : INext} (hr : iop T fr o h = some r) : SimRes P o a ρ B h w r := by
  unfold iop at hr
  rw [ho] at hr
  simp only at hr
  split at hr <;> (try cases hr)
  rename_i ti cs hti hx
  split at hr <;> (try cases hr)
  rename_i foff ft hfield
  split at hr <;> (try cases hr)
  rename_i t1i ht1
  simp only [Option.map_eq_some_iff] at hr
  obtain ⟨v, hv, rfl⟩ := hr
  have e := ev_rel hf hx
  simp only [VR] at e
  obtain ⟨cs', e, hcs⟩ := e
  obtain ⟨d, hd, hok⟩ := (hT.ty _ _ hti).und
  unfold fieldI at hfield
  split at hfield <;> (try cases hfield)
  rename_i fs hfs
  rw [hfs] at hok
  simp only [TDok] at hok
  obtain ⟨fa, rfl, hmap⟩ := hok
  have hfl : (fa.toList.map fun f => (f.offset, f.type))[f]? = some (foff, ft) := by rw [hmap]; exact hfield
  rw [List.getElem?_map, Option.map_eq_some_iff] at hfl
  obtain ⟨fl, hfl, hfe⟩ := hfl
  simp only [Prod.mk.injEq] at hfe
  have hfa : fa[f]? = some fl := by rw [← Array.getElem?_toList]; exact hfl
  obtain ⟨v', h1, h2⟩ := part_rel (w := w) hT ht1 hv hcs
  refine sim_val k ?_ h2
  simp [execOp, ho, e, Instr.field, run_underlying hd, hfa, asAgg, hfe.1, hfe.2, h1]

theorem sim_indexAddr (hT : TabsOk P T) (hf : FR ρ fr a) (k : HR ρ B h w) {t : TypeId} {x i : Operand} (ho : o.op = .indexAddr t x i) {r : INext} (hr : iop T fr o h = some r) : SimRes P o a ρ B h w r := by
  unfold iop at hr
  rw [ho] at hr
  simp only at hr
  split at hr <;> (try cases hr)
  rename_i ti v kk n hti hx hi
  have ex := ev_rel hf hx
  have ei := ev_rel hf hi
  simp only [VR] at ei
  obtain ⟨d, hd, hok⟩ := (hT.ty _ _ hti).und
  split at hr <;> (try cases hr)
  · rename_i e b off len c sz hde
    rw [hde] at hok
    simp only [TDok] at hok
    subst hok
    split at hr <;> (try cases hr)
    rename_i te hte
    split at hr <;> (try cases hr)
    rename_i hsz
    split at hr <;> (try cases hr)
    rename_i h0
    split at hr <;> (try cases hr)
    rename_i h1
    simp only [VR] at ex
    obtain ⟨m, c', o', hm, ex, hnc, hcc, hoff⟩ := ex
    have ho' : o' = m.sh + off := by
      rcases hoff with h2 | h2
      · exact h2.1
      · omega
    have hS := run_sizeOf (hT.ty _ _ hte)
    refine sim_val k (v := .pointer (some ⟨m.blk, m.sh + off + n.toNat * te.size, none⟩)) ?_ ⟨m, hm, by rw [Nat.add_assoc]⟩
    simp [execOp, ho, ex, ei, Instr.indexAt, asIntOf, run_underlying hd, h0, h1, hS, addr_add, ho']
  · rename_i len e b off hde
    rw [hde] at hok
    simp only [TDok] at hok
    subst hok
    split at hr <;> (try cases hr)
    rename_i te hte
    split at hr <;> (try cases hr)
    rename_i h0
    split at hr <;> (try cases hr)
    rename_i h1
    simp only [VR] at ex
    obtain ⟨m, hm, ex⟩ := ex
    have hS := run_sizeOf (hT.ty _ _ hte)
    refine sim_val k (v := .pointer (some ⟨m.blk, m.sh + off + n.toNat * te.size, none⟩)) ?_ ⟨m, hm, by rw [Nat.add_assoc]⟩
    simp [execOp, ho, ex, ei, Instr.indexAt, asIntOf, run_underlying hd, h0, h1, hS, addr_add, Instr.sureAddr]

theorem sim_index (hT : TabsOk P T) (hf : FR ρ fr a) (k : HR ρ B h w) {t : TypeId} {x i : Operand} (ho : o.op = .index t x i) {r : INext} (hr : iop T fr o h = some r) : SimRes P o a ρ B h w r := by
  unfold iop at hr
  rw [ho] at hr
  simp only at hr
  split at hr <;> (try cases hr)
  rename_i ti v kk n hti hx hi
  have ex := ev_rel hf hx
  have ei := ev_rel hf hi
  simp only [VR] at ei
  obtain ⟨d, hd, hok⟩ := (hT.ty _ _ hti).und
  split at hr <;> (try cases hr)
  · rename_i len e cs hde
    rw [hde] at hok
    simp only [TDok] at hok
    subst hok
    split at hr <;> (try cases hr)
    rename_i te hte
    split at hr <;> (try cases hr)
    rename_i h0
    split at hr <;> (try cases hr)
    rename_i h1
    simp only [Option.map_eq_some_iff] at hr
    obtain ⟨v, hv, rfl⟩ := hr
    simp only [VR] at ex
    obtain ⟨cs', ex, hcs⟩ := ex
    have hS := run_sizeOf (hT.ty _ _ hte)
    obtain ⟨v', r1, r2⟩ := part_rel (w := w) hT hte hv hcs
    refine sim_val k ?_ r2
    simp [execOp, ho, ex, ei, Instr.index, asIntOf, run_underlying hd, h0, h1, hS, r1]
  · rename_i s hde
    rw [hde] at hok
    simp only [TDok] at hok
    subst hok
    split at hr <;> (try cases hr)
    rename_i h0
    split at hr <;> (try cases hr)
    rename_i b hb
    simp only [VR] at ex
    have hget : (ByteArray.mk s.toArray)[n.toNat]? = some b := by
      have hlt := (List.getElem?_eq_some_iff.1 hb).1
      have : (ByteArray.mk s.toArray)[n.toNat]? = (s.toArray)[n.toNat]? := rfl
      rw [this]; simpa using hb
    refine sim_val k (v := .int .u8 b.toNat) ?_ (by simp [VR])
    simp [execOp, ho, ex, ei, Instr.index, asIntOf, run_underlying hd, h0, hget]

theorem sim_makeMap (k : HR ρ B h w) {t : TypeId} (ho : o.op = .makeMap t none) {r : INext} (hr : iop T fr o h = some r) : SimRes P o a ρ B h w r := by
  unfold iop at hr
  rw [ho] at hr
  simp only [Option.some.injEq] at hr
  subst hr
  refine ⟨.map (some w.heap.size), _, _, ?_, ?_, stp_alloc k (.map 0 [] 0) (.map #[] 0) 0 ⟨[], rfl, rfl, k.base⟩⟩
  · simp [execOp, ho, Instr.makeMap]
  · simp [VR, Ren.add_same]

end
end Go.Ae
