/-
  The executor of calls.
-/
import Derived.Test.YtkilagbpemchpaaGreatAeCode
set_option linter.unusedVariables false
set_option linter.unusedSimpArgs false
namespace Go.Ae
open Go Go.RowKit

structure FI where
  ntmps : Nat
  results : List ResultVar
  body : Code
  ri : Nat → Option RI

def frOf : List IV → Nat → Tr IV → Tr IV
  | [], _, t => t
  | x :: r, k, t => frOf r (k + 1) (t.put k (some x))

def resOneI (T : Tabs) (fr : Tr IV) (h : IH) : ResultVar → Option IV
  | .tmp t => fr.get t
  | .cell a t => match T.ty t, fr.get a with
    | some ti, some (.ptr (some (b, o))) => match getCells h b o (if ti.d.agg then ti.size else 1) with
      | some l => asVal ti.d.agg l
      | none => none
    | _, _ => none

def resI (T : Tabs) (fr : Tr IV) (h : IH) (rs : List ResultVar) : Option IV :=
  match mapO (resOneI T fr h) rs with
  | some [v] => some v
  | some vs => some (.tuple vs)
  | none => none

def runBody (T : Tabs) (fuel : Nat) (call : CallF) (fi : FI) (args : List IV) (h : IH) (s : Side) : Option (IV × IH × Side) :=
  if args.length ≤ fi.ntmps then
    match icode T fi.ri call fi.ntmps fuel fi.body (frOf args 0 .nil) h s with
    | some (.exit _, _, _, _) => none
    | some (_, fr, h1, s1) => match resI T fr h1 fi.results with
      | some v => some (v, h1, s1)
      | none => none
    | none => none
  else none

def icall (T : Tabs) (FT : FuncId → Option FI) (prim : CallF) (isPrim : FuncId → Bool) (fuel : Nat) : Nat → CallF
  | 0, _, _, _, _ => none
  | d + 1, f, args, h, s => if isPrim f then prim f args h s else match FT f with
    | some fi => runBody T fuel (icall T FT prim isPrim fuel d) fi args h s
    | none => none

structure FIok (P : Program) (T : Tabs) (f : FuncId) (fi : FI) : Prop where
  fn : ∃ fn : Func, P.funcs[f]? = some fn ∧ fn.body = some fi.body ∧ fn.ntmps = fi.ntmps ∧ fn.results.toList = fi.results ∧ (fn.name == "runtime.NumGoroutine") = false
  code : codeOK T fi.ri fi.ntmps fi.body = true

section
variable {P : Program} {T : Tabs} {call : CallF} {N : Nat} {RT : Nat → Option RI}

theorem frOf_get : ∀ (l : List IV) (k : Nat) (t : Tr IV) (j : Nat), (frOf l k t).get j = if k ≤ j ∧ j < k + l.length then l[j - k]? else t.get j
  | [], k, t, j => by
    simp only [frOf, List.length_nil, Nat.add_zero]
    rw [if_neg (by omega)]
  | x :: r, k, t, j => by
    simp only [frOf, List.length_cons]
    rw [frOf_get r (k + 1) (t.put k (some x)) j]
    by_cases h1 : k + 1 ≤ j ∧ j < k + 1 + r.length
    · rw [if_pos h1, if_pos (by omega)]
      have : j - k = (j - (k + 1)) + 1 := by omega
      rw [this, List.getElem?_cons_succ]
    · rw [if_neg h1, Tr.get_put]
      by_cases h2 : j = k
      · subst h2
        rw [if_pos rfl, if_pos (by omega), Nat.sub_self]
        rfl
      · rw [if_neg h2, if_neg (by omega)]

theorem start_rel {ρ : Ren} {args : List IV} {args' : List Value} (h : VRs ρ args args') {n : Nat} (hn : args.length ≤ n) :
    FR2 ρ n (frOf args 0 .nil) { tmps := args'.toArray ++ Array.replicate (n - args'.toArray.size) undef, defers := [] } := by
  have hl := h.length
  refine ⟨by simp; omega, fun t v ht => ?_, fun t ht hlt => ?_, rfl⟩
  · rw [frOf_get] at ht
    by_cases hc : 0 ≤ t ∧ t < 0 + args.length
    · rw [if_pos hc] at ht
      obtain ⟨v', e1, e2⟩ := VRs.get h _ _ ht
      simp only [Nat.sub_zero] at e1
      refine ⟨v', ?_, e2⟩
      show (args'.toArray ++ _)[t]? = _
      rw [Array.getElem?_append_left (by simp; omega)]
      simpa using e1
    · rw [if_neg hc, Tr.get_nil] at ht
      cases ht
  · rw [frOf_get] at ht
    by_cases hc : 0 ≤ t ∧ t < 0 + args.length
    · rw [if_pos hc, List.getElem?_eq_none_iff] at ht
      omega
    · show (args'.toArray ++ _)[t]? = _
      rw [Array.getElem?_append_right (by simp; omega), Array.getElem?_replicate, if_pos (by simp; omega)]

def resSem (a : Act) : ResultVar → Sem Value
  | .tmp t => pure (a.tmps.getD t undef)
  | .cell x t => do loadVar t (← asAddr (a.tmps.getD x undef))

theorem results_eq (fn : Func) (a : Act) : results fn a.tmps = (do let vs ← fn.results.mapM (resSem a); pure (if h : vs.size = 1 then vs[0] else .tuple vs)) := by
  unfold results
  congr 1

theorem res_one (hT : TabsOk P T) {ρ : Ren} {fr : Tr IV} {a : Act} (hf : FR ρ fr a) {B : Nat} {h : IH} {w : World} (k : HR ρ B h w) {r : ResultVar} {v : IV} (hr : resOneI T fr h r = some v) :
    ∃ v', (resSem a r).run P w = .ok v' w ∧ VR ρ v v' := by
  cases r with
  | tmp t =>
    obtain ⟨v', e1, e2⟩ := hf t v hr
    exact ⟨v', by simp [resSem, Array.getD_eq_getD_getElem?, e1], e2⟩
  | cell x t =>
    simp only [resOneI] at hr
    split at hr <;> (try cases hr)
    rename_i ti b off hti hx
    split at hr <;> (try cases hr)
    rename_i l hl
    obtain ⟨y, e1, e⟩ := hf x _ hx
    simp only [VR] at e
    obtain ⟨m, hm, rfl⟩ := e
    obtain ⟨l', r1, r2, r3, r4⟩ := load_rel (P := P) k hm hl
    have hA := run_isAgg (hT.ty _ _ hti)
    have hS := run_sizeOf (hT.ty _ _ hti)
    have hrel := asVal_rel hr r2
    have hg : a.tmps.getD x undef = .pointer (some ⟨m.blk, m.sh + off, none⟩) := by simp [Array.getD_eq_getD_getElem?, e1]
    cases hagg : ti.d.agg with
    | true =>
      rw [hagg] at r1 hrel
      simp only [if_true] at r1 hrel
      exact ⟨_, by simp [resSem, hg, loadVar, asAddr, hA, hagg, hS, r1], hrel⟩
    | false =>
      rw [hagg] at hrel
      obtain ⟨y, rfl, hy⟩ := by simpa using hrel
      have hc := r4 0 y rfl
      simp only [Nat.add_zero] at hc
      exact ⟨y, by simp [resSem, hg, loadVar, asAddr, hA, hagg, hc], hy⟩

theorem res_all (hT : TabsOk P T) {ρ : Ren} {fr : Tr IV} {a : Act} (hf : FR ρ fr a) {B : Nat} {h : IH} {w : World} (k : HR ρ B h w) : ∀ {l : List ResultVar} {vs : List IV}, mapO (resOneI T fr h) l = some vs →
    ∃ vs', (l.mapM (resSem a)).run P w = .ok vs' w ∧ VRs ρ vs vs'
  | [], vs, h => by
    simp only [mapO, Option.some.injEq] at h
    subst h
    exact ⟨[], by simp, rfl⟩
  | r :: l, vs, h => by
    simp only [mapO] at h
    split at h <;> (try cases h)
    rename_i y hy
    split at h <;> (try cases h)
    rename_i ys hys
    obtain ⟨v', e1, e2⟩ := res_one hT hf k hy
    obtain ⟨vs', e3, e4⟩ := res_all hT hf k hys
    refine ⟨v' :: vs', ?_, v', vs', rfl, e2, e4⟩
    rw [List.mapM_cons]
    simp only [Sem.run_bind, e1, Result.andThen_ok, e3, Sem.run_pure]

theorem res_rel (hT : TabsOk P T) {ρ : Ren} {fr : Tr IV} {a : Act} (hf : FR ρ fr a) {B : Nat} {h : IH} {w : World} (k : HR ρ B h w) {fn : Func} {v : IV} (hr : resI T fr h fn.results.toList = some v) :
    ∃ v', (results fn a.tmps).run P w = .ok v' w ∧ VR ρ v v' := by
  unfold resI at hr
  have hx : ∀ vs, mapO (resOneI T fr h) fn.results.toList = some vs → ∃ vs', VRs ρ vs vs' ∧ (results fn a.tmps).run P w = .ok (if h : vs'.toArray.size = 1 then vs'.toArray[0] else .tuple vs'.toArray) w := fun vs hvs => by
    obtain ⟨vs', e1, e2⟩ := res_all hT hf k hvs
    refine ⟨vs', e2, ?_⟩
    rw [results_eq, Array.mapM_eq_mapM_toList]
    simp only [bind_map_left, Sem.run_bind, e1, Result.andThen_ok, Sem.run_pure]
  split at hr
  · rename_i y hvs
    injection hr with hr; subst hr
    obtain ⟨vs', e1, e2⟩ := hx _ hvs
    simp only [VRs] at e1
    obtain ⟨z, zs, rfl, g1, rfl⟩ := e1
    exact ⟨z, by rw [e2]; simp, g1⟩
  · rename_i vs hn hvs
    injection hr with hr; subst hr
    obtain ⟨vs', e1, e2⟩ := hx _ hvs
    have hl := e1.length
    have hne : vs'.toArray.size ≠ 1 := fun h1 => by
      simp only [List.size_toArray] at h1
      rw [h1] at hl
      rcases vs with _ | ⟨y, _ | ⟨z, vs⟩⟩
      · simp at hl
      · exact hn y rfl
      · simp at hl
    refine ⟨.tuple vs'.toArray, by rw [e2, dif_neg hne], ?_⟩
    simp only [VR]
    exact ⟨vs', rfl, e1⟩
  · cases hr

theorem runBody_sound (hT : TabsOk P T) (hS : Sound P call) (hm : P.follows .mixedOrders = true) {fuel : Nat} {f : FuncId} {fi : FI} (hF : FIok P T f fi) {args : List IV} {h h1 : IH} {s s1 : Side} {v : IV} (hr : runBody T fuel call fi args h s = some (v, h1, s1)) :
    (∃ fn, P.funcs[f]? = some fn ∧ fn.body.isNone = false ∧ (fn.name == "runtime.NumGoroutine") = false) ∧ (∃ l, s1.asm = l ++ s.asm) ∧ Ext h h1 ∧
    (AsmOk s1 → ∀ ρ B w args', VRs ρ args args' → HR ρ B h w →
      Calls P f args'.toArray w fun e w1 => ∃ v' ρ1, e = .returned v' ∧ VR ρ1 v v' ∧ Stp ρ ρ1 B h h1 w w1) := by
  obtain ⟨fn, f1, f2, f3, f4, f5⟩ := hF.fn
  unfold runBody at hr
  split at hr <;> (try cases hr)
  rename_i hlen
  have hx : ∃ x fr, x.rel ≠ .goto 0 ∧ (x.rel = .normal ∨ x.rel = .ret) ∧ icode T fi.ri call fi.ntmps fuel fi.body (frOf args 0 .nil) h s = some (x, fr, h1, s1) ∧ resI T fr h1 fi.results = some v := by
    split at hr <;> (try cases hr)
    rename_i x fr h' s' hne e
    split at hr <;> (try cases hr)
    rename_i hres
    refine ⟨x, fr, ?_, ?_, e, hres⟩
    · cases x <;> simp [IX.rel]
    · cases x with
      | norm => exact .inl rfl
      | ret => exact .inr rfl
      | exit id => exact (hne id rfl).elim
  obtain ⟨x, fr, _, hxr, e, hres⟩ := hx
  obtain ⟨g1, g2⟩ := icode_side hS fi.body hF.code e
  refine ⟨⟨fn, f1, by rw [f2]; rfl, f5⟩, g2, g1, fun hA ρ B w args' ha k => ?_⟩
  refine calls_of_wp f1 f2 ?_
  rw [f3]
  refine wp_mono (icode_sound hT hS hm fi.body hF.code e hA (start_rel ha hlen) k) (fun ex a1 w1 hh => ?_)
  obtain ⟨rfl, ρ1, q1, q2⟩ := hh
  rw [← f4] at hres
  obtain ⟨v', r1, r2⟩ := res_rel hT q1.fr q2.hr hres
  rcases hxr with hxr | hxr <;> rw [hxr] <;> exact ⟨q1.defers, v', r1, v', ρ1, rfl, r2, q2⟩

theorem icall_sound (hT : TabsOk P T) (hm : P.follows .mixedOrders = true) {FT : FuncId → Option FI} {prim : CallF} {isPrim : FuncId → Bool} (hP : Sound P prim) (hF : ∀ f fi, FT f = some fi → FIok P T f fi) {fuel : Nat} : ∀ d, Sound P (icall T FT prim isPrim fuel d) := by
  intro d
  induction d with
  | zero => intro f args h s v h1 s1 hr; simp [icall] at hr
  | succ d ih =>
    intro f args h s v h1 s1 hr
    simp only [icall] at hr
    split at hr
    · exact hP f args h s v h1 s1 hr
    · split at hr <;> (try cases hr)
      rename_i fi hfi
      exact runBody_sound hT ih hm (hF f fi hfi) hr

end
end Go.Ae
