/-
  What an operation may do to the ideal heap; on what it depends.
-/
import Derived.Test.YtkilagbpemchpaaGreatAeExec
set_option linter.unusedVariables false
set_option linter.unusedSimpArgs false
namespace Go.Ae
open Go Go.RowKit

def INext.heap : INext → IH
  | .val _ h => h
  | .skip h => h
  | .call _ _ h => h

theorem setCells_ext {h h1 : IH} {b o : Nat} {vs : List IV} (hs : setCells h b o vs = some h1) : Ext h h1 := by
  unfold setCells at hs
  split at hs <;> (try cases hs)
  rename_i ver cs hg
  split at hs <;> (try cases hs)
  split at hs <;> (try cases hs)
  exact Ext.write h b _ (by rw [hg]; exact Nat.lt_succ_self _) (fun hd => by rw [hg] at hd; cases hd)

theorem appendI_ext {sz bytes : Nat} {s : IV} {news : List IV} {n : Nat} {h : IH} {r : INext} (hr : appendI sz bytes s news n h = some r) : Ext h r.heap := by
  unfold appendI at hr
  split at hr <;> (try cases hr)
  split at hr <;> (try cases hr)
  · split at hr
    · injection hr with hr; subst hr; exact Ext.refl h
    · split at hr <;> (try cases hr)
      exact Ext.alloc h _
  · split at hr
    · injection hr with hr; subst hr; exact Ext.refl h
    · split at hr <;> (try cases hr)
      exact Ext.alloc h _
  · split at hr <;> (try cases hr)
    split at hr
    · split at hr <;> (try cases hr)
      rename_i h1 hs
      exact setCells_ext hs
    · split at hr <;> (try cases hr)
      rename_i ver cs hg
      split at hr <;> (try cases hr)
      split at hr <;> (try cases hr)
      exact (Ext.write h _ _ (by rw [hg]; exact Nat.lt_succ_self _) (fun _ => rfl)).trans (Ext.alloc _ _)

theorem callI_ext {T : Tabs} {fr : Tr IV} {c : Call} {h : IH} {r : INext} (hr : callI T fr c h = some r) : Ext h r.heap := by
  unfold callI at hr
  split at hr <;> (try cases hr)
  split at hr <;> (try cases hr)
  · split at hr <;> (try cases hr)
    exact Ext.refl h
  · split at hr <;> (try cases hr)
    · split at hr <;> (try cases hr)
      simp only [Option.map_eq_some_iff] at hr
      obtain ⟨_, _, rfl⟩ := hr
      exact Ext.refl h
    · split at hr <;> (try cases hr)
      split at hr <;> (try cases hr)
      exact Ext.refl h
    · split at hr <;> (try cases hr)
      split at hr <;> (try cases hr)
      split at hr <;> (try cases hr)
      split at hr <;> (try cases hr)
      split at hr <;> (try cases hr)
      · exact appendI_ext hr
      · exact appendI_ext hr
      · split at hr <;> (try cases hr)
        exact appendI_ext hr
    · split at hr <;> (try cases hr)
      split at hr <;> (try cases hr)
      split at hr <;> (try cases hr)
      split at hr <;> (try cases hr)
      · exact Ext.refl h
      · exact Ext.refl h
      · split at hr
        · injection hr with hr; subst hr; exact Ext.refl h
        · simp only [Option.map_eq_some_iff] at hr
          obtain ⟨_, hs, rfl⟩ := hr
          exact setCells_ext hs
    · exact Ext.refl h
    · exact Ext.refl h

theorem map_ext {h : IH} {r : Nat} {ver clock clock1 : Nat} {es es1 : List (IV × IV × Nat)} (hg : h.get r = .map ver es clock) : Ext h (h.write r (.map (ver + 1) es1 clock1)) :=
  Ext.write h r _ (by rw [hg]; exact Nat.lt_succ_self _) (fun hd => by rw [hg] at hd; cases hd)

theorem iop_ext {T : Tabs} {fr : Tr IV} {o : Oper} {h : IH} {r : INext} (hr : iop T fr o h = some r) : Ext h r.heap := by
  unfold iop at hr
  split at hr <;> (try cases hr)
  all_goals first
    | exact callI_ext hr
    | skip
  · simp only [Option.map_eq_some_iff] at hr; obtain ⟨_, _, rfl⟩ := hr; exact Ext.refl h
  · simp only [Option.map_eq_some_iff] at hr; obtain ⟨_, _, rfl⟩ := hr; exact Ext.refl h
  · split at hr <;> (try cases hr)
    simp only [Option.map_eq_some_iff] at hr; obtain ⟨_, _, rfl⟩ := hr; exact Ext.refl h
  · split at hr <;> (try cases hr)
    split at hr <;> (try cases hr)
    split at hr <;> (try cases hr)
    exact Ext.alloc h _
  · split at hr <;> (try cases hr)
    split at hr <;> (try cases hr)
    exact Ext.alloc h _
  · split at hr <;> (try cases hr)
    split at hr <;> (try cases hr)
    split at hr <;> (try cases hr)
    · simp only [Option.map_eq_some_iff] at hr; obtain ⟨_, _, rfl⟩ := hr; exact Ext.refl h
    · split at hr <;> (try cases hr)
      simp only [Option.map_eq_some_iff] at hr; obtain ⟨_, _, rfl⟩ := hr; exact Ext.refl h
  · split at hr <;> (try cases hr)
    split at hr <;> (try cases hr)
    split at hr <;> (try cases hr)
    split at hr <;> (try cases hr)
    split at hr <;> (try cases hr)
    split at hr <;> (try cases hr)
    split at hr <;> (try cases hr)
    exact Ext.alloc h _
  · split at hr <;> (try cases hr)
    split at hr <;> (try cases hr)
    simp only [Option.map_eq_some_iff] at hr; obtain ⟨_, _, rfl⟩ := hr; exact Ext.refl h
  · split at hr <;> (try cases hr)
    split at hr <;> (try cases hr)
    simp only [Option.map_eq_some_iff] at hr; obtain ⟨_, hs, rfl⟩ := hr; exact setCells_ext hs
  · split at hr <;> (try cases hr) <;> exact Ext.refl h
  · split at hr <;> (try cases hr)
    · split at hr <;> (try cases hr)
      split at hr <;> (try cases hr)
      split at hr <;> (try cases hr)
      split at hr <;> (try cases hr)
      split at hr <;> (try cases hr) <;> exact Ext.refl h
    · split at hr <;> (try cases hr)
      split at hr <;> (try cases hr)
      all_goals (simp only [Option.map_eq_some_iff] at hr; obtain ⟨_, _, rfl⟩ := hr; exact Ext.refl h)
  · split at hr <;> (try cases hr)
    simp only [Option.map_eq_some_iff] at hr; obtain ⟨_, _, rfl⟩ := hr; exact Ext.refl h
  · split at hr <;> (try cases hr)
    split at hr <;> (try cases hr)
    exact Ext.refl h
  · split at hr <;> (try cases hr)
    simp only [Option.map_eq_some_iff] at hr; obtain ⟨_, _, rfl⟩ := hr; exact Ext.refl h
  · exact Ext.alloc h _
  · split at hr <;> (try cases hr)
    split at hr <;> (try cases hr)
    split at hr <;> (try cases hr)
    split at hr <;> (try cases hr)
    split at hr <;> (try cases hr)
    split at hr <;> (try cases hr)
    split at hr <;> (try cases hr)
    split at hr <;> (try cases hr)
    split at hr <;> (try cases hr)
    split at hr <;> (try cases hr)
    exact Ext.alloc h _
  · split at hr <;> (try cases hr)
    split at hr <;> (try cases hr)
    · split at hr <;> (try cases hr)
      split at hr <;> (try cases hr)
      split at hr <;> (try cases hr)
      exact Ext.refl h
    · split at hr <;> (try cases hr)
      split at hr <;> (try cases hr)
      · split at hr <;> (try cases hr)
        simp only [Option.map_eq_some_iff] at hr; obtain ⟨_, _, rfl⟩ := hr; exact Ext.refl h
      · simp only [Option.map_eq_some_iff] at hr; obtain ⟨_, _, rfl⟩ := hr; exact Ext.refl h
      · simp only [Option.map_eq_some_iff] at hr; obtain ⟨_, _, rfl⟩ := hr; exact Ext.refl h
    · simp only [Option.map_eq_some_iff] at hr; obtain ⟨_, _, rfl⟩ := hr; exact Ext.refl h
  · split at hr <;> (try cases hr)
    split at hr <;> (try cases hr)
    split at hr <;> (try cases hr)
    split at hr <;> (try cases hr)
    exact Ext.refl h
  · split at hr <;> (try cases hr)
    split at hr <;> (try cases hr)
    split at hr <;> (try cases hr)
    simp only [Option.map_eq_some_iff] at hr; obtain ⟨_, _, rfl⟩ := hr; exact Ext.refl h
  · split at hr <;> (try cases hr)
    split at hr <;> (try cases hr)
    · split at hr <;> (try cases hr)
      split at hr <;> (try cases hr)
      split at hr <;> (try cases hr)
      split at hr <;> (try cases hr)
      exact Ext.refl h
    · split at hr <;> (try cases hr)
      split at hr <;> (try cases hr)
      split at hr <;> (try cases hr)
      exact Ext.refl h
  · split at hr <;> (try cases hr)
    split at hr <;> (try cases hr)
    · split at hr <;> (try cases hr)
      split at hr <;> (try cases hr)
      split at hr <;> (try cases hr)
      simp only [Option.map_eq_some_iff] at hr; obtain ⟨_, _, rfl⟩ := hr; exact Ext.refl h
    · split at hr <;> (try cases hr)
      split at hr <;> (try cases hr)
      exact Ext.refl h
  · split at hr <;> (try cases hr)
    split at hr <;> (try cases hr)
    split at hr <;> (try cases hr)
    split at hr <;> (try cases hr)
    split at hr <;> (try cases hr)
    split at hr <;> (try cases hr)
    exact Ext.refl h
  · split at hr <;> (try cases hr)
    split at hr <;> (try cases hr)
    rename_i hg
    split at hr <;> (try cases hr)
    split at hr <;> (try cases hr)
    · exact map_ext hg
    · exact map_ext hg
  · split at hr <;> (try cases hr)
    split at hr <;> (try cases hr)
    rename_i hg
    split at hr <;> (try cases hr)
    split at hr <;> (try cases hr)
    split at hr <;> (try cases hr)
    · split at hr <;> (try cases hr)
      exact map_ext hg
    · exact map_ext hg
  · split at hr <;> (try cases hr)
    split at hr <;> (try cases hr)
    rename_i hg
    split at hr <;> (try cases hr)
    exact map_ext hg
  · split at hr <;> (try cases hr)
    simp only [Option.map_eq_some_iff] at hr; obtain ⟨_, _, rfl⟩ := hr; exact Ext.refl h

/-! ### Operands -/
theorem parts_congr {fr fr' : Tr IV} : ∀ {ps : List (Nat × Operand)}, (∀ x ∈ ps.map (·.2), ev fr x = ev fr' x) → parts fr ps = parts fr' ps
  | [], _ => rfl
  | (i, x) :: ps, h => by
    simp only [parts]
    rw [h x (by simp), parts_congr (fun y hy => h y (by simp at hy ⊢; exact .inr hy))]

theorem mapO_congr {fr fr' : Tr IV} : ∀ {l : List Operand}, (∀ x ∈ l, ev fr x = ev fr' x) → mapO (ev fr) l = mapO (ev fr') l
  | [], _ => rfl
  | x :: l, h => by
    simp only [mapO]
    rw [h x (by simp), mapO_congr (fun y hy => h y (by simp [hy]))]

theorem optEv_congr {fr fr' : Tr IV} {x : Option Operand} (h : ∀ y ∈ x.toList, ev fr y = ev fr' y) : optEv fr x = optEv fr' x := by
  cases x with
  | none => rfl
  | some x => simp only [optEv]; rw [h x (by simp)]

theorem iop_congr {T : Tabs} {fr fr' : Tr IV} {o : Oper} {h : IH} (he : ∀ x ∈ o.op.operands, ev fr x = ev fr' x) : iop T fr o h = iop T fr' o h := by
  unfold iop
  cases ho : o.op <;> rw [ho] at he <;> simp only <;> simp only [Op.operands] at he
  case move x => rw [he x (by simp)]
  case assign x => rw [he x (by simp)]
  case pick c x y =>
    rw [he c (by simp)]
    split
    · rename_i t _
      cases t
      · rw [if_neg (by simp), he y (by simp)]
      · rw [if_pos rfl, he x (by simp)]
    · rfl
  case box t x => rw [he x (by simp)]
  case build t ps => rw [parts_congr (fun x hx => he x (by simpa using hx))]
  case buildSlice t n ps => rw [parts_congr (fun x hx => he x (by simpa using hx))]
  case load t x => rw [he x (by simp)]
  case store t x y => rw [he x (by simp), he y (by simp)]
  case nilCheck x => rw [he x (by simp)]
  case binOp op t x y t' => rw [he x (by simp), he y (by simp)]
  case unOp op t x => rw [he x (by simp)]
  case convert s d x => rw [he x (by simp)]
  case makeFunc fn f c => cases fn <;> simp only <;> rw [mapO_congr (fun x hx => he x (Array.mem_append.2 (.inr (by simpa using hx))))]
  case makeMap t x => cases x <;> rfl
  case makeSlice t x y => rw [he x (by simp), he y (by simp)]
  case slice t x lo hi mx => rw [he x (by simp), optEv_congr (x := lo) (fun y hy => he y (by simp at hy ⊢; simp [hy])), optEv_congr (x := hi) (fun y hy => he y (by simp at hy ⊢; simp [hy])), optEv_congr (x := mx) (fun y hy => he y (by simp at hy ⊢; simp [hy]))]
  case fieldAddr t x f => rw [he x (by simp)]
  case field t x f => rw [he x (by simp)]
  case indexAddr t x i => rw [he x (by simp), he i (by simp)]
  case index t x i => rw [he x (by simp), he i (by simp)]
  case lookup t x k ok => rw [he x (by simp), he k (by simp)]
  case mapUpdate t m k x => rw [he m (by simp), he k (by simp), he x (by simp)]
  case mapEntry t m k => rw [he m (by simp), he k (by simp)]
  case entryStore t m k x => rw [he m (by simp), he k (by simp), he x (by simp)]
  case extract x i => rw [he x (by simp)]
  case call c =>
    unfold callI
    rw [mapO_congr (fun x hx => he x (by simp only [Call.operands]; exact Array.mem_append.2 (.inr (by simpa using hx))))]
    split
    · rfl
    · split
      · rename_i f hcal
        rw [he f (by simp [Call.operands, hcal])]
      · rfl
      · rfl

end Go.Ae
