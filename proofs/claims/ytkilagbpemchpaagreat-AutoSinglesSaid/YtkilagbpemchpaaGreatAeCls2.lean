/-
  Kinds of operations: on what they depend.
-/
import Derived.Test.YtkilagbpemchpaaGreatAeCls
set_option linter.unusedVariables false
set_option linter.unusedSimpArgs false
namespace Go.Ae
open Go Go.RowKit

section
variable {P : Program} {T : Tabs} {fr : Tr IV} {o : Oper} {h : IH}

theorem callI_len {c : Call} (hcal : c.callee = .builtin .len) {ti : TI} (hti : tyAt T c 0 = some ti) {r : INext} (hr : callI T fr c h = some r) :
    ∃ x n, mapO (ev fr) c.args.toList = some [x] ∧ lenI ti x h = some n ∧ r = .val (.int .i64 n) h := by
  unfold callI at hr
  cases hm : mapO (ev fr) c.args.toList with
  | none => simp only [hm] at hr; cases hr
  | some xs =>
    simp only [hm, hcal] at hr
    match xs, hr with
    | [], hr => cases hr
    | [x], hr =>
      simp only [hti, Option.map_eq_some_iff] at hr
      obtain ⟨n, hn, rfl⟩ := hr
      exact ⟨x, n, rfl, hn, rfl⟩
    | _ :: _ :: _, hr => simp at hr

theorem callI_len' {c : Call} (hcal : c.callee = .builtin .len) {ti : TI} (hti : tyAt T c 0 = some ti) {x : IV} {n : Int}
    (hm : mapO (ev fr) c.args.toList = some [x]) (hn : lenI ti x h = some n) : callI T fr c h = some (.val (.int .i64 n) h) := by
  unfold callI
  simp only [hm, hcal, hti, hn, Option.map_some]

theorem callI_cap {c : Call} (hcal : c.callee = .builtin .cap) {r : INext} (hr : callI T fr c h = some r) :
    ∃ v, r = .val v h ∧ ∀ h', callI T fr c h' = some (.val v h') := by
  unfold callI at hr ⊢
  cases hm : mapO (ev fr) c.args.toList with
  | none => simp only [hm] at hr; cases hr
  | some xs =>
    simp only [hm, hcal] at hr ⊢
    split at hr <;> rename_i hb <;> (try cases hb) <;> (try cases hr)
    split at hr <;> (try cases hr)
    split at hr <;> (try cases hr)
    exact ⟨_, rfl, fun h' => by simp only [*]⟩

theorem callI_min {c : Call} (hcal : c.callee = .builtin .min) {r : INext} (hr : callI T fr c h = some r) :
    ∃ v, r = .val v h ∧ ∀ h', callI T fr c h' = some (.val v h') := by
  unfold callI at hr ⊢
  cases hm : mapO (ev fr) c.args.toList with
  | none => simp only [hm] at hr; cases hr
  | some xs =>
    simp only [hm, hcal] at hr ⊢
    split at hr <;> rename_i hb <;> (try cases hb) <;> (try cases hr)
    exact ⟨_, rfl, fun h' => rfl⟩

theorem callI_max {c : Call} (hcal : c.callee = .builtin .max) {r : INext} (hr : callI T fr c h = some r) :
    ∃ v, r = .val v h ∧ ∀ h', callI T fr c h' = some (.val v h') := by
  unfold callI at hr ⊢
  cases hm : mapO (ev fr) c.args.toList with
  | none => simp only [hm] at hr; cases hr
  | some xs =>
    simp only [hm, hcal] at hr ⊢
    split at hr <;> rename_i hb <;> (try cases hb) <;> (try cases hr)
    exact ⟨_, rfl, fun h' => rfl⟩

theorem clsP (hc : clsOf T o = .P) {r : INext} (hr : iop T fr o h = some r) : ∃ v, r = .val v h ∧ ∀ h', iop T fr o h' = some (.val v h') := by
  have hc00 := hc
  cases ho : o.op <;> simp only [clsOf, ho] at hc <;> (try cases hc)
  case move x => simp only [iop, ho, Option.map_eq_some_iff] at hr ⊢; obtain ⟨v, hv, rfl⟩ := hr; exact ⟨v, rfl, fun h' => ⟨v, hv, rfl⟩⟩
  case assign x => simp only [iop, ho, Option.map_eq_some_iff] at hr ⊢; obtain ⟨v, hv, rfl⟩ := hr; exact ⟨v, rfl, fun h' => ⟨v, hv, rfl⟩⟩
  case extract x i =>
    simp only [iop, ho] at hr ⊢
    split at hr <;> (try cases hr)
    simp only [Option.map_eq_some_iff] at hr ⊢
    obtain ⟨v, hv, rfl⟩ := hr
    exact ⟨v, rfl, fun h' => ⟨v, hv, rfl⟩⟩
  case pick c x y =>
    simp only [iop, ho] at hr ⊢
    split at hr <;> (try cases hr)
    simp only [Option.map_eq_some_iff] at hr ⊢
    obtain ⟨v, hv, rfl⟩ := hr
    exact ⟨v, rfl, fun h' => ⟨v, hv, rfl⟩⟩
  case build t ps =>
    simp only [iop, ho] at hr ⊢
    split at hr <;> (try cases hr)
    split at hr <;> (try cases hr)
    split at hr <;> (try cases hr)
    · simp only [Option.map_eq_some_iff] at hr
      obtain ⟨v, hv, rfl⟩ := hr
      exact ⟨_, rfl, fun h' => by simp only [*, Option.map_some]⟩
    · split at hr <;> (try cases hr)
      simp only [Option.map_eq_some_iff] at hr
      obtain ⟨v, hv, rfl⟩ := hr
      exact ⟨_, rfl, fun h' => by simp only [*, Option.map_some]⟩
  case nilCheck x =>
    simp only [iop, ho] at hr ⊢
    split at hr <;> (try cases hr) <;> exact ⟨_, rfl, fun h' => rfl⟩
  case binOp op t x y t' =>
    simp only [iop, ho] at hr ⊢
    split at hr <;> (try cases hr)
    · split at hr <;> (try cases hr)
      split at hr <;> (try cases hr)
      split at hr <;> (try cases hr)
      split at hr <;> (try cases hr)
      rename_i h1 h2 h3 _ _ h4
      split at hr <;> (try cases hr) <;> exact ⟨_, rfl, fun h' => by simp only [h1, h2, h3, h4, if_true]⟩
    · split at hr <;> (try cases hr)
      rename_i h1
      split at hr
      all_goals (try cases hr)
      all_goals
        rename_i h2
        simp only [h1, h2, Option.map_eq_some_iff] at hr ⊢
        obtain ⟨v, hv, rfl⟩ := hr
        exact ⟨_, rfl, fun h' => ⟨v, hv, rfl⟩⟩
  case unOp op t x =>
    simp only [iop, ho] at hr ⊢
    split at hr <;> (try cases hr)
    simp only [Option.map_eq_some_iff] at hr ⊢
    obtain ⟨v, hv, rfl⟩ := hr
    exact ⟨v, rfl, fun h' => ⟨v, hv, rfl⟩⟩
  case convert s d x =>
    simp only [iop, ho] at hr ⊢
    split at hr <;> (try cases hr)
    split at hr <;> (try cases hr)
    rename_i h1
    exact ⟨_, rfl, fun h' => by simp only [h1]⟩
  case makeFunc fn f c =>
    cases fn <;> simp only [iop, ho] at hr ⊢ <;> (try cases hr)
    split at hr <;> (try cases hr)
    rename_i h1
    simp only [h1, if_true, Option.map_eq_some_iff] at hr ⊢
    obtain ⟨v, hv, rfl⟩ := hr
    exact ⟨_, rfl, fun h' => ⟨v, hv, rfl⟩⟩
  case makeMap t x => cases x <;> simp only at hc <;> (try cases hc)
  case fieldAddr t x f =>
    simp only [iop, ho] at hr ⊢
    split at hr <;> (try cases hr)
    split at hr <;> (try cases hr)
    split at hr <;> (try cases hr)
    split at hr <;> (try cases hr)
    rename_i h1 _ _ h2 h3
    exact ⟨_, rfl, fun h' => by simp only [h1, h2, h3, if_false]⟩
  case field t x f =>
    simp only [iop, ho] at hr ⊢
    split at hr <;> (try cases hr)
    split at hr <;> (try cases hr)
    split at hr <;> (try cases hr)
    rename_i h1 _ _ h2
    simp only [h1, h2, Option.map_eq_some_iff] at hr ⊢
    obtain ⟨v, hv, rfl⟩ := hr
    exact ⟨_, rfl, fun h' => ⟨v, hv, rfl⟩⟩
  case indexAddr t x i =>
    simp only [iop, ho] at hr ⊢
    split at hr <;> (try cases hr)
    split at hr <;> (try cases hr)
    · split at hr <;> (try cases hr)
      split at hr <;> (try cases hr)
      split at hr <;> (try cases hr)
      split at hr <;> (try cases hr)
      rename_i h1 _ _ h2 h3 h4 h5
      exact ⟨_, rfl, fun h' => by simp only [h1, h2, h3, h4, h5, if_true]⟩
    · split at hr <;> (try cases hr)
      split at hr <;> (try cases hr)
      split at hr <;> (try cases hr)
      rename_i h1 _ _ h2 h4 h5
      exact ⟨_, rfl, fun h' => by simp only [h1, h2, h4, h5, if_true]⟩
  case index t x i =>
    simp only [iop, ho] at hr ⊢
    split at hr <;> (try cases hr)
    split at hr <;> (try cases hr)
    · split at hr <;> (try cases hr)
      split at hr <;> (try cases hr)
      split at hr <;> (try cases hr)
      rename_i h1 _ _ h2 h4 h5
      simp only [h1, h2, h4, h5, if_true, Option.map_eq_some_iff] at hr ⊢
      obtain ⟨v, hv, rfl⟩ := hr
      exact ⟨_, rfl, fun h' => ⟨v, hv, rfl⟩⟩
    · split at hr <;> (try cases hr)
      split at hr <;> (try cases hr)
      rename_i h1 h2 _ _ h3
      exact ⟨_, rfl, fun h' => by simp only [h1, h2, h3, if_true]⟩
  case slice t x lo hi mx =>
    split at hc <;> (try cases hc)
    rename_i ti hti
    split at hc <;> (try cases hc)
    rename_i hagg
    simp only [iop, ho, hti] at hr ⊢
    split at hr <;> (try cases hr)
    rename_i ti' v hti' hx
    cases hti'
    cases hd : ti.d with
    | array n e => rw [hd] at hagg; simp [TD.agg] at hagg
    | slice e =>
      simp only [hd] at hr ⊢
      split at hr <;> (try cases hr)
      rename_i te hte
      split at hr <;> (try cases hr)
      · split at hr <;> (try cases hr)
        rename_i hsz
        subst hsz
        simp only [Option.map_eq_some_iff] at hr
        obtain ⟨v, hv, rfl⟩ := hr
        exact ⟨_, rfl, fun h' => by simp only [*, Option.map_some, if_true]⟩
      · simp only [Option.map_eq_some_iff] at hr
        obtain ⟨v, hv, rfl⟩ := hr
        exact ⟨_, rfl, fun h' => by simp only [*, Option.map_some]⟩
      · simp only [Option.map_eq_some_iff] at hr
        obtain ⟨v, hv, rfl⟩ := hr
        exact ⟨_, rfl, fun h' => by simp only [*, Option.map_some]⟩
    | str =>
      simp only [hd] at hr ⊢
      cases v <;> simp only at hr <;> (try cases hr)
      simp only [Option.map_eq_some_iff] at hr
      obtain ⟨v, hv, rfl⟩ := hr
      exact ⟨_, rfl, fun h' => by simp only [*, Option.map_some]⟩
    | _ => simp only [hd] at hr; cases hr
  case call c =>
    simp only [iop, ho] at hr ⊢
    cases hcal : c.callee <;> simp only [hcal] at hc <;> (try cases hc)
    rename_i b
    have hL : c.callee = .builtin .len → ∃ v, r = .val v h ∧ ∀ h', callI T fr c h' = some (.val v h') := by
      intro hcal
      have hc' := hc00
      unfold clsOf at hc'
      simp only [ho, hcal] at hc'
      split at hc' <;> (try cases hc')
      rename_i ti hti
      obtain ⟨x, n, hm, hl, rfl⟩ := callI_len hcal hti hr
      refine ⟨_, rfl, fun h' => callI_len' hcal hti hm ?_⟩
      unfold lenI at hl ⊢
      split at hl <;> (try cases hl) <;> simp_all
    cases b <;> simp only at hc <;> (try cases hc) <;> (first | exact callI_cap hcal hr | exact callI_min hcal hr | exact callI_max hcal hr | exact hL hcal)

theorem clsL (hc : clsOf T o = .L) {r : INext} (hr : iop T fr o h = some r) : ∃ v, r = .val v h ∧ ∀ h', (∀ b, blkOf fr o = some b → h'.get b = h.get b) → iop T fr o h' = some (.val v h') := by
  cases ho : o.op <;> simp only [clsOf, ho] at hc <;> (try cases hc)
  case load t x =>
    simp only [iop, ho] at hr ⊢
    split at hr <;> (try cases hr)
    rename_i ti b off hti hx
    split at hr <;> (try cases hr)
    rename_i l hl
    simp only [Option.map_eq_some_iff] at hr
    obtain ⟨v, hv, rfl⟩ := hr
    refine ⟨v, rfl, fun h' hb => ?_⟩
    have := hb b (by simp only [blkOf, ho, hx])
    have hl' : getCells h' b off (if ti.d.agg = true then ti.size else 1) = some l := by
      unfold getCells at hl ⊢
      rw [this]
      exact hl
    simp only [hti, hx, hl', hv, Option.map_some]
  case makeMap t x => cases x <;> simp only at hc <;> (try cases hc)
  case slice t x lo hi mx =>
    split at hc <;> (try cases hc)
    split at hc <;> cases hc
  case lookup t x k ok =>
    simp only [iop, ho] at hr ⊢
    split at hr <;> (try cases hr)
    rename_i ti m kv hti hx hk
    split at hr <;> (try cases hr)
    rename_i kt e hde
    split at hr <;> (try cases hr)
    rename_i te hte
    split at hr <;> (try cases hr)
    rename_i z es hz hes
    split at hr <;> (try cases hr)
    rename_i hkey
    split at hr <;> (try cases hr)
    rename_i r hfind
    refine ⟨_, rfl, fun h' hb => ?_⟩
    have hes' : entsI m h' = some es := by
      unfold entsI at hes ⊢
      split at hes <;> (try cases hes)
      · rfl
      · rename_i rr
        have := hb rr (by simp only [blkOf, ho, hx])
        rw [this]
        exact hes
    simp only [hti, hx, hk, hde, hte, hz, hes', hkey, hfind, if_true]
  case call c =>
    split at hc <;> (try cases hc)
    split at hc <;> (try cases hc)
    split at hc <;> cases hc

end
end Go.Ae
