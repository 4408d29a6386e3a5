/-
  The operations on the ideal heap are the machine's: cuts.
-/
import Derived.Test.YtkilagbpemchpaaGreatAeSim5
set_option linter.unusedVariables false
set_option linter.unusedSimpArgs false
namespace Go.Ae
open Go Go.RowKit

section
variable {P : Program} {T : Tabs} {fr : Tr IV} {o : Oper} {h : IH} {ρ : Ren} {B : Nat} {a : Act} {w : World}

theorem opt_rel (hf : FR ρ fr a) {x : Option Operand} {y d r : Nat} (h : optB (optEv fr x) y d = some r) :
    (x = none ∧ r = d) ∨ ∃ op kk i, x = some op ∧ a.eval op = .int kk i ∧ 0 ≤ i ∧ i ≤ (y : Int) ∧ r = i.toNat := by
  cases x with
  | none => simp only [optEv, optB, Option.some.injEq] at h; exact .inl ⟨rfl, h.symm⟩
  | some op =>
    simp only [optEv] at h
    cases hv : ev fr op with
    | none => rw [hv] at h; simp [optB] at h
    | some v =>
      rw [hv] at h
      simp only [optB, boundI] at h
      split at h <;> (try cases h)
      rename_i kk i
      split at h <;> (try cases h)
      rename_i h0
      split at h <;> (try cases h)
      rename_i h1
      have e := ev_rel hf hv
      simp only [VR] at e
      exact .inr ⟨op, kk, i, rfl, e, h0, h1, rfl⟩

theorem run_bound (kk : IntKind) (i : Int) (y : Nat) (c : BoundsCode) (h0 : 0 ≤ i) (h1 : i ≤ (y : Int)) : (Instr.sliceBound (.int kk i) y c).run P w = .ok i.toNat w := by
  simp [Instr.sliceBound, asIntOf, h0, h1]

/-- The bounds of a cut: the real capacity is at least the ideal one. -/
theorem bounds_rel (hf : FR ρ fr a) {lo hi mx : Option Operand} {n c c' m hh l : Nat} {isS : Bool} (hc : c ≤ c') (hmx : ((optEv fr mx).isSome && (optEv fr hi).isNone) = false)
    (hm : optB (optEv fr mx) c c = some m) (hhh : optB (optEv fr hi) m n = some hh) (hl : optB (optEv fr lo) hh 0 = some l) :
    ∃ m', (Instr.sliceBounds isS n c' (lo.map a.eval) (hi.map a.eval) (mx.map a.eval)).run P w = .ok (l, hh, m') w ∧ m ≤ m' ∧ (mx = none → m' = c' ∧ m = c) ∧ (mx ≠ none → m' = m) := by
  rcases opt_rel hf hm with ⟨rfl, rfl⟩ | ⟨om, km, im, rfl, em, m0, m1, rfl⟩
  · rcases opt_rel hf hhh with ⟨rfl, rfl⟩ | ⟨oh, kh, ih, rfl, eh, h0, h1, rfl⟩
    · rcases opt_rel hf hl with ⟨rfl, rfl⟩ | ⟨ol, kl, il, rfl, el, l0, l1, rfl⟩
      · exact ⟨c', by simp [Instr.sliceBounds], hc, fun _ => ⟨rfl, rfl⟩, fun h => absurd rfl h⟩
      · exact ⟨c', by simp [Instr.sliceBounds, el, run_bound kl il _ _ l0 l1], hc, fun _ => ⟨rfl, rfl⟩, fun h => absurd rfl h⟩
    · rcases opt_rel hf hl with ⟨rfl, rfl⟩ | ⟨ol, kl, il, rfl, el, l0, l1, rfl⟩
      · exact ⟨c', by simp [Instr.sliceBounds, eh, run_bound kh ih c' _ h0 (by omega)], hc, fun _ => ⟨rfl, rfl⟩, fun h => absurd rfl h⟩
      · exact ⟨c', by simp [Instr.sliceBounds, eh, run_bound kh ih c' _ h0 (by omega), el, run_bound kl il _ _ l0 l1], hc, fun _ => ⟨rfl, rfl⟩, fun h => absurd rfl h⟩
  · rcases opt_rel hf hhh with ⟨rfl, rfl⟩ | ⟨oh, kh, ih, rfl, eh, h0, h1, rfl⟩
    · simp [optEv] at hmx
    · rcases opt_rel hf hl with ⟨rfl, rfl⟩ | ⟨ol, kl, il, rfl, el, l0, l1, rfl⟩
      · exact ⟨im.toNat, by simp [Instr.sliceBounds, em, run_bound km im c' _ m0 (by omega), eh, run_bound kh ih im.toNat _ h0 h1], Nat.le_refl _, fun h => by simp at h, fun _ => rfl⟩
      · exact ⟨im.toNat, by simp [Instr.sliceBounds, em, run_bound km im c' _ m0 (by omega), eh, run_bound kh ih im.toNat _ h0 h1, el, run_bound kl il _ _ l0 l1], Nat.le_refl _, fun h => by simp at h, fun _ => rfl⟩

theorem sim_slice (hT : TabsOk P T) (hf : FR ρ fr a) (k : HR ρ B h w) {t : TypeId} {x : Operand} {lo hi mx : Option Operand} (ho : o.op = .slice t x lo hi mx) {r : INext} (hr : iop T fr o h = some r) : SimRes P o a ρ B h w r := by
  unfold iop at hr
  rw [ho] at hr
  simp only at hr
  split at hr <;> (try cases hr)
  rename_i ti v hti hx
  have ex := ev_rel hf hx
  obtain ⟨d, hd, hok⟩ := (hT.ty _ _ hti).und
  split at hr <;> (try cases hr)
  · rename_i n e b off hde
    rw [hde] at hok
    simp only [TDok] at hok
    subst hok
    split at hr <;> (try cases hr)
    rename_i te hte
    split at hr <;> (try cases hr)
    rename_i hz
    split at hr <;> (try cases hr)
    rename_i cs hcs
    simp only [VR] at ex
    obtain ⟨m, hm, ex⟩ := ex
    have hS := run_sizeOf (hT.ty _ _ hte)
    have hfit : m.sh + off + n * te.size ≤ m.size := by
      unfold getCells at hcs
      split at hcs <;> (try cases hcs)
      rename_i rw' ver cl hg
      split at hcs <;> (try cases hcs)
      rename_i hlen
      have hor := k.obj b m hm
      rw [hg] at hor
      obtain ⟨c, e', fr', h1, h2, h3, _⟩ := hor
      have hcl := h3.length
      rw [List.length_take, List.length_drop] at hcl hlen
      omega
    refine sim_val k (v := .slice (some ⟨m.blk, m.sh + off, none⟩) n n) ?_ ⟨m, n, _, hm, rfl, Nat.le_refl _, Nat.le_refl _, .inl ⟨rfl, hfit⟩⟩
    have hadd : (⟨m.blk, m.sh + off, none⟩ : Addr).add 0 = ⟨m.blk, m.sh + off, none⟩ := rfl
    simp [execOp, ho, ex, Instr.sliceAt, run_underlying hd, Instr.sureAddr, Instr.sliceBounds, hS, hadd]
  · rename_i e v hde
    rw [hde] at hok
    simp only [TDok] at hok
    subst hok
    split at hr <;> (try cases hr)
    rename_i te hte
    have hS := run_sizeOf (hT.ty _ _ hte)
    split at hr <;> (try cases hr)
    · rename_i p n c sz
      split at hr <;> (try cases hr)
      rename_i hsz
      subst hsz
      simp only [Option.map_eq_some_iff] at hr
      obtain ⟨v, hv, rfl⟩ := hr
      simp only [VR] at ex
      obtain ⟨m, c', o', hm, ex, hnc, hcc, hoff⟩ := ex
      unfold sliceI at hv
      split at hv <;> (try cases hv)
      rename_i hmx
      simp only at hv
      split at hv <;> (try cases hv)
      rename_i mm hmm
      split at hv <;> (try cases hv)
      rename_i hh hhh
      split at hv <;> (try cases hv)
      rename_i ll hll
      split at hv <;> (try cases hv)
      rename_i hlh
      split at hv <;> (try cases hv)
      rename_i hhm
      obtain ⟨m', hrun, h1, h2, h3⟩ := bounds_rel (P := P) (w := w) (isS := true) hf hcc (Bool.eq_false_iff.mpr hmx) hmm hhh hll
      have hexec : (execOp a.eval o).run P w = .ok (.value (.slice (if m' = ll then some ⟨m.blk, o', none⟩ else (some ⟨m.blk, o', none⟩ : Option Addr).map (·.add (ll * te.size))) (hh - ll) (m' - ll))) w := by
        simp [execOp, ho, ex, Instr.sliceAt, Instr.slice, run_underlying hd, hrun, hS]
      split at hv
      · rename_i hz
        injection hv with hv; subst hv
        simp only [Bool.and_eq_true, beq_iff_eq] at hz
        have hne : mx ≠ none := by intro e; rw [e] at hz; simp [optEv] at hz
        have := h3 hne
        refine sim_val k hexec ?_
        have e1 : m' = ll := by omega
        have e2 : hh - ll = 0 := by omega
        have e3 : m' - ll = 0 := by omega
        rw [if_pos e1, e2, e3]
        exact ⟨_, rfl⟩
      · rename_i hz
        injection hv with hv; subst hv
        refine sim_val k hexec ?_
        simp only [VR]
        by_cases e1 : m' = ll
        · have : mm = ll := by omega
          have e2 : hh = ll := by omega
          rw [if_pos e1]
          exact ⟨m, m' - ll, o', hm, rfl, by omega, by omega, .inr ⟨by omega, by omega⟩⟩
        · rw [if_neg e1]
          simp only [Option.map_some, addr_add]
          refine ⟨m, m' - ll, o' + ll * te.size, hm, rfl, by omega, by omega, ?_⟩
          rcases hoff with ⟨g1, g2⟩ | ⟨g1, g2⟩
          · refine .inl ⟨by rw [g1, Nat.add_assoc], ?_⟩
            have hm'c : m' ≤ c' := by
              by_cases hn : mx = none
              · rw [(h2 hn).1]; exact Nat.le_refl _
              · rw [h3 hn]
                rcases opt_rel hf hmm with ⟨q, _⟩ | ⟨_, _, im, _, _, _, q, rfl⟩
                · exact absurd q hn
                · omega
            have : ll * te.size + (m' - ll) * te.size = m' * te.size := by rw [← Nat.add_mul]; congr 1; omega
            have h5 : m' * te.size ≤ c' * te.size := Nat.mul_le_mul_right _ hm'c
            omega
          · exfalso
            have hm'c : m' ≤ c' := by
              by_cases hn : mx = none
              · rw [(h2 hn).1]; exact Nat.le_refl _
              · rw [h3 hn]
                rcases opt_rel hf hmm with ⟨q, _⟩ | ⟨_, _, im, _, _, _, q, rfl⟩
                · exact absurd q hn
                · omega
            omega
    · rename_i n c sz
      simp only [Option.map_eq_some_iff] at hr
      obtain ⟨v, hv, rfl⟩ := hr
      simp only [VR] at ex
      obtain ⟨rfl, rfl, ex⟩ := ex
      unfold sliceI at hv
      split at hv <;> (try cases hv)
      rename_i hmx
      simp only at hv
      split at hv <;> (try cases hv)
      rename_i mm hmm
      split at hv <;> (try cases hv)
      rename_i hh hhh
      split at hv <;> (try cases hv)
      rename_i ll hll
      split at hv <;> (try cases hv)
      rename_i hlh
      split at hv <;> (try cases hv)
      rename_i hhm
      obtain ⟨m', hrun, h1, h2, h3⟩ := bounds_rel (P := P) (w := w) (isS := true) (c' := 0) hf (Nat.le_refl _) (Bool.eq_false_iff.mpr hmx) hmm hhh hll
      have hmm0 : mm = 0 := by
        rcases opt_rel hf hmm with ⟨_, q⟩ | ⟨_, _, im, _, _, _, q, rfl⟩ <;> omega
      have hm'0 : m' = 0 := by
        by_cases hn : mx = none
        · exact (h2 hn).1
        · rw [h3 hn]; exact hmm0
      have e2 : hh = 0 := by omega
      have e3 : ll = 0 := by omega
      subst e2 e3 hm'0
      refine sim_val k (v := .slice none 0 0) ?_ (by simp [VR])
      simp [execOp, ho, ex, Instr.sliceAt, Instr.slice, run_underlying hd, hrun, hS]
    · simp only [Option.map_eq_some_iff] at hr
      obtain ⟨v, hv, rfl⟩ := hr
      simp only [VR] at ex
      obtain ⟨a', ex⟩ := ex
      unfold sliceI at hv
      split at hv <;> (try cases hv)
      rename_i hmx
      simp only at hv
      split at hv <;> (try cases hv)
      rename_i mm hmm
      split at hv <;> (try cases hv)
      rename_i hh hhh
      split at hv <;> (try cases hv)
      rename_i ll hll
      obtain ⟨m', hrun, h1, h2, h3⟩ := bounds_rel (P := P) (w := w) (isS := true) (c' := 0) hf (Nat.le_refl _) (Bool.eq_false_iff.mpr hmx) hmm hhh hll
      have hmm0 : mm = 0 := by
        rcases opt_rel hf hmm with ⟨_, q⟩ | ⟨_, _, im, _, _, _, q, rfl⟩ <;> omega
      have hm'0 : m' = 0 := by
        by_cases hn : mx = none
        · exact (h2 hn).1
        · rw [h3 hn]; exact hmm0
      have e2 : hh = 0 := by
        rcases opt_rel hf hhh with ⟨_, q⟩ | ⟨_, _, im, _, _, _, q, rfl⟩ <;> omega
      have e3 : ll = 0 := by
        rcases opt_rel hf hll with ⟨_, q⟩ | ⟨_, _, im, _, _, _, q, rfl⟩ <;> omega
      subst e2 e3 hm'0
      refine sim_val k (v := .slice (some a') 0 0) ?_ ⟨_, rfl⟩
      simp [execOp, ho, ex, Instr.sliceAt, Instr.slice, run_underlying hd, hrun, hS]
  · rename_i s hde
    rw [hde] at hok
    simp only [TDok] at hok
    subst hok
    simp only [Option.map_eq_some_iff] at hr
    obtain ⟨v, hv, rfl⟩ := hr
    simp only [VR] at ex
    unfold sliceI at hv
    split at hv <;> (try cases hv)
    rename_i hmx
    simp only at hv
    split at hv <;> (try cases hv)
    rename_i hmn
    split at hv <;> (try cases hv)
    rename_i hh hhh
    split at hv <;> (try cases hv)
    rename_i ll hll
    have hmn' : mx = none := by
      cases mx with
      | none => rfl
      | some q => simp [optEv] at hmn
    subst hmn'
    obtain ⟨m', hrun, h1, h2, h3⟩ := bounds_rel (P := P) (w := w) (isS := false) (mx := none) (c := s.length) (c' := s.length) (m := s.length) hf (Nat.le_refl _) (by simp [optEv]) (by simp [optEv, optB]) hhh hll
    have hsz : (ByteArray.mk s.toArray).size = s.length := by show s.toArray.size = _; simp
    refine sim_val k (v := .string ((ByteArray.mk s.toArray).extract ll hh)) ?_ ?_
    · simp only [Option.map_none] at hrun
      simp [execOp, ho, ex, Instr.sliceAt, Instr.slice, run_underlying hd, hsz, hrun]
    · simp only [VR]
      congr 1
      apply ByteArray.ext
      rw [ByteArray.data_extract]
      apply Array.ext'
      rw [Array.toList_extract]

end
end Go.Ae
