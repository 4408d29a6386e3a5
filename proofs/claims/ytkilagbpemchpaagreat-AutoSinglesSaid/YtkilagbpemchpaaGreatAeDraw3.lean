/-
  A region whose order is drawn: the walk over all orders.
-/
import Derived.Test.YtkilagbpemchpaaGreatAeDraw2
set_option linter.unusedVariables false
set_option linter.unusedSimpArgs false
namespace Go.Ae
open Go Go.RowKit

def Done (listed : Array Bool) (i : Nat) : Prop := listed.getD i false = true

theorem done_set {listed : Array Bool} {i : Nat} (h : i < listed.size) (j : Nat) : Done (listed.setIfInBounds i true) j ↔ (j = i ∨ Done listed j) := by
  unfold Done
  simp only [Array.getD_eq_getD_getElem?, Array.getElem?_setIfInBounds]
  by_cases e : i = j
  · subst e; simp [h]
  · simp only [e, if_false]
    exact ⟨.inr, fun q => q.resolve_left (fun q => e q.symm)⟩

theorem FR2.congr {ρ : Ren} {N : Nat} {fr fr' : Tr IV} {a : Act} (k : FR2 ρ N fr a) (h : ∀ t, fr'.get t = fr.get t) : FR2 ρ N fr' a :=
  ⟨k.size, fun t v ht => k.has t v (by rw [← h]; exact ht), fun t ht => k.lacks t (by rw [← h]; exact ht), k.defers⟩

section
variable {P : Program} {T : Tabs} {call : CallF} {N : Nat} {ops : Array Oper}
variable {ord : List Nat} {anc : Nat → Nat → Bool} {chk : List (Nat × List Nat)} {fr0 fn : Tr IV} {h0 : IH} {s0 : Side} {tr : List (Tr IV × IH × Side)}

structure Inv (T : Tabs) (N : Nat) (ops : Array Oper) (ord : List Nat) (fr0 fn : Tr IV) (tr : List (Tr IV × IH × Side)) (ρ0 : Ren) (B : Nat) (w0 : World)
    (listed : Array Bool) (a : Act) (w : World) (ρ : Ren) (p : Nat) (frD : Tr IV) : Prop where
  size : listed.size = ops.size
  closed : ∀ i o e, Done listed i → ops[i]? = some o → e ∈ o.after → Region.binds .any e = true → Done listed e.on
  ple : p ≤ ord.length
  lo : ∀ (q i : Nat) o, q < p → ord[q]? = some i → ops[i]? = some o → clsOf T o = .E → Done listed i
  hi : ∀ (q i : Nat) o, p ≤ q → ord[q]? = some i → ops[i]? = some o → (clsOf T o = .E ∨ clsOf T o = .A) → ¬ Done listed i
  f1 : ∀ i d, Done listed i → dstOf ops i = some d → frD.get d = fn.get d
  f2 : ∀ t, (∀ i, Done listed i → dstOf ops i ≠ some t) → frD.get t = fr0.get t
  fr : FR2 ρ N frD a
  fresh : ∀ (q i : Nat) o, ord[q]? = some i → ops[i]? = some o → clsOf T o = .A → Region.wanted o (yieldI ops (frAt tr q)) = true → ¬ Done listed i → ρ (hAt tr q).n = none
  stp : Stp ρ0 ρ B (hAt tr 0) (hAt tr p) w0 w

theorem Inv.bump (k : RF T N ops ord anc chk) (hr : runT T call N ops ord fr0 h0 s0 = some (fn, tr)) (hS : Sound P call) {ρ0 : Ren} {B : Nat} {w0 : World} (d0 : ∀ b m, ρ0 b = some m → b < (hAt tr 0).n)
    {listed : Array Bool} {a : Act} {w : World} {ρ : Ren} {p : Nat} {frD : Tr IV} (v : Inv T N ops ord fr0 fn tr ρ0 B w0 listed a w ρ p frD) {p' : Nat} (h1 : p ≤ p') (h2 : p' ≤ ord.length)
    (hE : ∀ (q i : Nat) o, p ≤ q → q < p' → ord[q]? = some i → ops[i]? = some o → clsOf T o ≠ .E) : Inv T N ops ord fr0 fn tr ρ0 B w0 listed a w ρ p' frD where
  size := v.size
  closed := v.closed
  ple := h2
  lo q i o hq e1 e2 hc := by
    by_cases e : q < p
    · exact v.lo q i o e e1 e2 hc
    · exact absurd hc (hE q i o (by omega) hq e1 e2)
  hi q i o hq := v.hi q i o (by omega)
  f1 := v.f1
  f2 := v.f2
  fr := v.fr
  fresh := v.fresh
  stp := v.stp.grow d0 (k.ext hr hS p p' h1 h2).1 (fun b hb => k.seg hr hS p b hb p' h1 h2 (fun j i o e1 e2 e3 e4 e5 => absurd e5 (hE j i o e1 e2 e3 e4)))

/-- The block of an operation that reads or lays, over the writers that may run on either side of it. -/
theorem dyn_at (k : RF T N ops ord anc chk) (hd : dynOK T ops ord tr chk = true) {q i : Nat} {o : Oper} (hq : ord[q]? = some i) (ho : ops[i]? = some o) (hc : clsOf T o = .L ∨ clsOf T o = .A)
    (hw : Region.wanted o (yieldI ops (frAt tr q)) = true) {b : Nat} (hb : blkAt T (frAt tr q) o (hAt tr q) = some b) :
    b < (hAt tr (q + 1)).n ∧ ∀ (j i' : Nat) o', ord[j]? = some i' → ops[i']? = some o' → clsOf T o' = .E → anc i i' = false → anc i' i = false → ((hAt tr j).get b).ver = ((hAt tr (j + 1)).get b).ver ∨ sameVal (iop T (frAt tr q) o (hAt tr j)) (iop T (frAt tr q) o (hAt tr (j + 1))) = true := by
  obtain ⟨es, hm, he⟩ := k.checks q i o hq ho hc
  unfold dynOK at hd
  have := (List.all_eq_true.1 hd) _ hm
  simp only [hq, ho, hw, if_true, hb, Bool.and_eq_true, Nat.blt_eq] at this
  refine ⟨this.1, fun j i' o' e1 e2 e3 e4 e5 => ?_⟩
  have := (List.all_eq_true.1 this.2) j (he j i' o' e1 e2 e3 e4 e5)
  rw [Bool.or_eq_true] at this
  exact this.imp eq_of_beq id

theorem any_sound (k : RF T N ops ord anc chk) (hr : runT T call N ops ord fr0 h0 s0 = some (fn, tr)) (hd : dynOK T ops ord tr chk = true) (hT : TabsOk P T) (hS : Sound P call) (hA : AsmOk (sAt tr ord.length))
    {ρ0 : Ren} {B : Nat} {w0 : World} (d0 : ∀ b m, ρ0 b = some m → b < (hAt tr 0).n) {Q : Exit → Act → World → Prop}
    (hq : ∀ a1 w1 ρ1, FR2 ρ1 N fn a1 → Stp ρ0 ρ1 B (hAt tr 0) (hAt tr ord.length) w0 w1 → Q .normal a1 w1) :
    ∀ (fuel : Nat) (listed : Array Bool) (a : Act) (w : World) (ρ : Ren) (p : Nat) (frD : Tr IV), (listed.toList.countP fun b => !b) ≤ fuel → Inv T N ops ord fr0 fn tr ρ0 B w0 listed a w ρ p frD → wpAny P .any ops Q fuel listed a w := by
  -- the end
  have hend : ∀ (listed : Array Bool) (a : Act) (w : World) (ρ : Ren) (p : Nat) (frD : Tr IV), Inv T N ops ord fr0 fn tr ρ0 B w0 listed a w ρ p frD → Region.ready .any ops listed = [] → Q .normal a w := by
    intro listed a w ρ p frD v hnil
    have hall : ∀ q : Nat, ∀ i, ord[q]? = some i → Done listed i := by
      intro q
      induction q using Nat.strongRecOn with
      | ind q ih =>
        intro i hqi
        refine Classical.byContradiction fun hn => ?_
        have hb := k.bound q i hqi
        have hlt : i < listed.size := by rw [v.size]; exact hb
        have : i ∈ Region.ready .any ops listed := by
          rw [mem_ready]
          refine ⟨?_, ops[i], by simp [hb], fun e he hbi => ?_⟩
          · unfold Done at hn
            simp only [Array.getD_eq_getD_getElem?, hlt, getElem?_pos, Option.getD_some] at hn ⊢
            simpa using hn
          · obtain ⟨q', h1, h2⟩ := k.top q i ops[i] e hqi (by simp [hb]) he hbi
            exact ih q' h1 _ h2
        rw [hnil] at this
        cases this
    have hD : ∀ i, i < ops.size → Done listed i := fun i hi => by obtain ⟨q, h⟩ := k.cover i hi; exact hall q i h
    have v' := v.bump k hr hS d0 v.ple (Nat.le_refl _) (fun q i o e1 e2 e3 e4 e5 => v.hi q i o e1 e3 e4 (.inl e5) (hall q i e3))
    refine hq a w ρ (v'.fr.congr fun t => ?_) v'.stp
    by_cases hx : ∃ i, dstOf ops i = some t
    · obtain ⟨i, hi⟩ := hx
      have hlt : i < ops.size := by
        unfold dstOf at hi
        cases e : ops[i]? with
        | none => rw [e] at hi; cases hi
        | some o => exact (Array.getElem?_eq_some_iff.1 e).1
      exact (v'.f1 i t (hD i hlt) hi).symm
    · obtain ⟨_, _, g, _⟩ := runT_facts ord hr
      rw [v'.f2 t (fun i _ h => hx ⟨i, h⟩), g t (fun i _ h => hx ⟨i, h⟩)]
  intro fuel
  induction fuel with
  | zero =>
    intro listed a w ρ p frD hc v
    have hnil : Region.ready .any ops listed = [] := by
      rw [List.eq_nil_iff_forall_not_mem]
      intro i hi
      rw [mem_ready] at hi
      obtain ⟨h1, o, ho, _⟩ := hi
      have hb : i < listed.size := by rw [v.size]; exact (Array.getElem?_eq_some_iff.1 ho).1
      have : 0 < listed.toList.countP (fun b => !b) := by
        rw [List.countP_pos_iff]
        refine ⟨listed[i], by simp, ?_⟩
        simp only [Array.getD_eq_getD_getElem?, hb, getElem?_pos, Option.getD_some] at h1
        simp [h1]
      omega
    exact ⟨hnil, hend listed a w ρ p frD v hnil⟩
  | succ fuel ih =>
    intro listed a w ρ p frD hc v
    refine ⟨hend listed a w ρ p frD v, fun i hi => ?_⟩
    rw [mem_ready] at hi
    obtain ⟨hun, o, ho, hrd⟩ := hi
    have hib : i < ops.size := (Array.getElem?_eq_some_iff.1 ho).1
    have hil : i < listed.size := by rw [v.size]; exact hib
    have hnd : ¬ Done listed i := by
      unfold Done
      simp only [Array.getD_eq_getD_getElem?, hil, getElem?_pos, Option.getD_some] at hun ⊢
      simp [hun]
    obtain ⟨q, hqi⟩ := k.cover i hib
    have hrdy : ∀ e ∈ o.after, Region.binds .any e = true → Done listed e.on := hrd
    have hanc : ∀ {j : Nat}, anc j i = true → Done listed j := fun ha => k.ready v.closed hqi ho hrdy ha
    have hcnt : ((listed.setIfInBounds i true).toList.countP fun b => !b) ≤ fuel := by
      rw [Array.toList_setIfInBounds, List.countP_set (by simpa using hil)]
      have hp : 0 < listed.toList.countP (fun b => !b) := by
        rw [List.countP_pos_iff]
        refine ⟨listed[i], by simp, ?_⟩
        simp only [Array.getD_eq_getD_getElem?, hil, getElem?_pos, Option.getD_some] at hun
        simp [hun]
      have hx : listed[i] = false := by
        simpa only [Array.getD_eq_getD_getElem?, hil, getElem?_pos, Option.getD_some] using hun
      have hx' : listed.toList[i]'(by simpa using hil) = false := by simpa using hx
      rw [hx']
      simp only [Bool.not_false, Bool.not_true, if_true]
      have : (if false = true then 1 else 0) = 0 := rfl
      rw [this]
      omega
    obtain ⟨R, hres, hdst, hag1, hag2⟩ := k.op' hr hqi ho
    -- the frame reads as the trace's
    have hfd : ∀ j t, dstOf ops j = some t → anc j i = true → frD.get t = (frAt tr q).get t := fun j t hj ha => by
      rw [v.f1 j t (hanc ha) hj]
      exact hag1 t j hj ha
    have hrd' : ∀ x ∈ o.op.operands, ev frD x = ev (frAt tr q) x := fun x hx => ev_agree fun t ht => by
      subst ht
      by_cases hw : ∃ j, dstOf ops j = some t
      · obtain ⟨j, hj⟩ := hw
        rcases k.reads i o t j ho hx hj with ha | ha
        · exact hfd j t hj ha
        · obtain ⟨oj, hoj⟩ : ∃ oj, ops[j]? = some oj := by
            unfold dstOf at hj
            cases e : ops[j]? with
            | none => rw [e] at hj; cases hj
            | some oj => exact ⟨oj, rfl⟩
          obtain ⟨pj, hpj⟩ := k.cover j (Array.getElem?_eq_some_iff.1 hoj).1
          rw [v.f2 t (fun j' hd' hj' => by
            have := k.dst j' j t hj' hj
            subst this
            exact hnd (k.closed v.closed pj hpj hd' ha)), hag2 t (fun j' hj' => by
            have := k.dst j' j t hj' hj
            subst this
            exact ha)]
      · rw [v.f2 t (fun j _ hj => hw ⟨j, hj⟩), hag2 t (fun j hj => absurd ⟨j, hj⟩ hw)]
    have hgd : ∀ j b, o.guard = some (j, b) → yieldI ops frD j = yieldI ops (frAt tr q) j := fun j b hj => yield_agree fun t ht => hfd j t ht (k.guards i o j b ho hj)
    have hdb : ∀ o ∈ ops, ∀ d, o.dst = some d → d < N := fun o' ho' d hd' => by
      obtain ⟨j, hj⟩ := Array.mem_iff_getElem?.1 ho'
      exact k.lt j d (by simp [dstOf, hj, hd'])
    have hput : ∃ frD', putI N frD o.dst R = some frD' := by
      unfold putI
      cases e : o.dst with
      | none => exact ⟨_, rfl⟩
      | some d => exact ⟨_, if_pos (k.lt i d (by simp [dstOf, ho, e]))⟩
    obtain ⟨frD', hp⟩ := hput
    have hf1 : ∀ j d, Done (listed.setIfInBounds i true) j → dstOf ops j = some d → frD'.get d = fn.get d := fun j d hj hjd => by
      by_cases e : o.dst = some d
      · rw [(putI_get hp).1 d e, hdst d e]
      · rw [(putI_get hp).2 d e]
        rcases (done_set hil j).1 hj with h | h
        · subst h
          simp only [dstOf, ho, Option.bind_some] at hjd
          exact absurd hjd e
        · exact v.f1 j d h hjd
    have hf2 : ∀ t, (∀ j, Done (listed.setIfInBounds i true) j → dstOf ops j ≠ some t) → frD'.get t = fr0.get t := fun t ht => by
      have e : o.dst ≠ some t := fun e => ht i ((done_set hil i).2 (.inl rfl)) (by simp [dstOf, ho, e])
      rw [(putI_get hp).2 t e]
      exact v.f2 t (fun j hj => ht j ((done_set hil j).2 (.inr hj)))
    have hcl : ∀ j o' e, Done (listed.setIfInBounds i true) j → ops[j]? = some o' → e ∈ o'.after → Region.binds .any e = true → Done (listed.setIfInBounds i true) e.on := fun j o' e hj ho' he hbi => by
      refine (done_set hil _).2 (.inr ?_)
      rcases (done_set hil j).1 hj with h | h
      · subst h
        rw [ho] at ho'
        injection ho' with ho'
        subst ho'
        exact hrdy e he hbi
      · exact v.closed j o' e h ho' he hbi
    -- what follows, once the new state is known
    have hgo : ∀ (p' : Nat) (ρ' : Ren) (a' : Act) (w' : World), p' ≤ ord.length →
        (∀ (q i' : Nat) o', q < p' → ord[q]? = some i' → ops[i']? = some o' → clsOf T o' = .E → i' = i ∨ Done listed i') →
        (∀ (q' i' : Nat) o', p' ≤ q' → ord[q']? = some i' → ops[i']? = some o' → (clsOf T o' = .E ∨ clsOf T o' = .A) → i' ≠ i ∧ ¬ Done listed i') →
        FR2 ρ' N frD' a' →
        (∀ (q i' : Nat) o', ord[q]? = some i' → ops[i']? = some o' → clsOf T o' = .A → Region.wanted o' (yieldI ops (frAt tr q)) = true → i' ≠ i → ¬ Done listed i' → ρ' (hAt tr q).n = none) →
        Stp ρ0 ρ' B (hAt tr 0) (hAt tr p') w0 w' → wpAny P .any ops Q fuel (listed.setIfInBounds i true) a' w' := by
      intro p' ρ' a' w' g1 g2 g3 g4 g5 g6
      refine ih _ _ _ ρ' p' frD' hcnt ⟨by simp [v.size], hcl, g1, ?_, ?_, hf1, hf2, g4, ?_, g6⟩
      · intro q i' o' e1 e2 e3 e4
        exact (done_set hil _).2 (g2 q i' o' e1 e2 e3 e4)
      · intro q i' o' e1 e2 e3 e4 h
        obtain ⟨x1, x2⟩ := g3 q i' o' e1 e2 e3 e4
        rcases (done_set hil _).1 h with h | h
        · exact x1 h
        · exact x2 h
      · intro q i' o' e1 e2 e3 e4 h
        exact g5 q i' o' e1 e2 e3 e4 (fun e => h ((done_set hil _).2 (.inl e))) (fun e => h ((done_set hil _).2 (.inr e)))
    have hA' : ∀ r, r ≤ ord.length → AsmOk (sAt tr r) := fun r hr' => hA.of (k.ext hr hS r ord.length hr' (Nat.le_refl _)).2
    have hql : q < ord.length := by
      rcases Nat.lt_or_ge q ord.length with h | h
      · exact h
      · rw [List.getElem?_eq_none h] at hqi; cases hqi
    unfold wpOp
    rw [ho]
    simp only
    have hwt : Region.wanted o (yielded ops a.tmps) = Region.wanted o (yieldI ops (frAt tr q)) := by
      rw [← wanted_congr hgd]
      congr 1
      funext j
      exact yield_rel v.fr hdb j
    rw [hwt]
    -- no writer stands between here and an operation that all of them precede
    have hbar : (clsOf T o = .E ∨ clsOf T o = .A) → ∀ (q' i' : Nat) o', p ≤ q' → q' < q → ord[q']? = some i' → ops[i']? = some o' → clsOf T o' ≠ .E := fun hc q' i' o' e1 e2 e3 e4 e5 =>
      v.hi q' i' o' e1 e3 e4 (.inl e5) (hanc (k.eord q' q i' i o' o e2 e3 hqi e4 ho e5 hc))
    have hpq : clsOf T o = .E → p ≤ q := fun hc => Nat.le_of_not_lt fun h => hnd (v.lo q i o h hqi ho hc)
    have hself : ∀ (q' : Nat), ord[q']? = some i → q' = q := fun q' h => k.inj _ _ _ h hqi
    -- a writer between is not ordered with it
    have hfree : ∀ (j i' : Nat) o', ord[j]? = some i' → ops[i']? = some o' → clsOf T o' = .E → ((p ≤ j ∧ j < q) ∨ (q < j ∧ j < p)) → anc i i' = false ∧ anc i' i = false := by
      intro j i' o' e1 e2 e3 e4
      constructor
      · cases ha : anc i i' with
        | false => rfl
        | true =>
          exfalso
          rcases e4 with ⟨e4, e5⟩ | ⟨e4, e5⟩
          · obtain ⟨q', x1, x2⟩ := k.pos j e1 ha
            have := hself q' x2
            omega
          · exact hnd (k.closed v.closed j e1 (v.lo j i' o' e5 e1 e2 e3) ha)
      · cases ha : anc i' i with
        | false => rfl
        | true =>
          exfalso
          rcases e4 with ⟨e4, e5⟩ | ⟨e4, e5⟩
          · exact v.hi j i' o' e4 e1 e2 (.inl e3) (hanc ha)
          · obtain ⟨q', x1, x2⟩ := k.pos q hqi ha
            have := k.inj _ _ _ x2 e1
            omega
    unfold resOne at hres
    by_cases hw : Region.wanted o (yieldI ops (frAt tr q)) = true
    · rw [if_pos hw] at hres ⊢
      cases hcl' : clsOf T o with
      | P =>
        obtain ⟨y, rfl, e1, e2, e3⟩ := resOp_still (.inl hcl') hres
        have e4 := e3 (hAt tr p) (fun h => by rw [hcl'] at h; cases h)
        rw [← iop_congr hrd'] at e4
        have hst : stepOp T call N frD o (hAt tr p) (sAt tr p) = some (frD', hAt tr p, sAt tr p) := stepOp_of (R := some y) (by unfold resOp; rw [e4]) hp
        refine .inl (step_sound hT hS hst (hA' p v.ple) v.fr v.stp.hr (fun a1 w1 ρ1 g1 g2 => ?_))
        refine hgo p ρ1 a1 w1 v.ple (fun q' i' o' x1 x2 x3 x4 => .inr (v.lo q' i' o' x1 x2 x3 x4)) (fun q' i' o' x1 x2 x3 x4 => ⟨fun e => ?_, v.hi q' i' o' x1 x2 x3 x4⟩) g1 (fun q' i' o' x1 x2 x3 x4 x5 x6 => ?_) (v.stp.trans d0 g2)
        · subst e
          rw [ho] at x3; injection x3 with x3; subst x3
          rw [hcl'] at x4; rcases x4 with x4 | x4 <;> cases x4
        · have hn := v.fresh q' i' o' x1 x2 x3 x4 x6
          cases hn1 : ρ1 (hAt tr q').n with
          | none => rfl
          | some m =>
            have y1 := (g2.frm.fresh _ _ hn1 hn).1
            have y2 := (g2.hr.dom _ _ hn1).1
            omega
      | L =>
        obtain ⟨y, rfl, e1, e2, e3⟩ := resOp_still (.inr hcl') hres
        have hvq : iop T (frAt tr q) o (hAt tr q) = some (.val y (hAt tr q)) := e3 _ (fun _ _ _ => rfl)
        have hzz : ∀ b, blkOf (frAt tr q) o = some b → _ := fun b hb => dyn_at k hd hqi ho (.inl hcl') hw (b := b) (by simp only [blkAt, hcl', hb])
        have hE : ∀ (j i' : Nat) o', ord[j]? = some i' → ops[i']? = some o' → clsOf T o' = .E → ((p ≤ j ∧ j < q) ∨ (q < j ∧ j < p)) →
            (∀ b, blkOf (frAt tr q) o = some b → ((hAt tr j).get b).ver = ((hAt tr (j + 1)).get b).ver) ∨ sameVal (iop T (frAt tr q) o (hAt tr j)) (iop T (frAt tr q) o (hAt tr (j + 1))) = true := fun j i' o' x3 x4 x5 x6 => by
          obtain ⟨f1, f2⟩ := hfree j i' o' x3 x4 x5 x6
          cases hbo : blkOf (frAt tr q) o with
          | none => exact .inl (fun b hb => by cases hb)
          | some b =>
            rcases (hzz b hbo).2 j i' o' x3 x4 x5 f1 f2 with g | g
            · exact .inl (fun b' hb' => by injection hb' with hb'; subst hb'; exact g)
            · exact .inr g
        have e4 : iop T (frAt tr q) o (hAt tr p) = some (.val y (hAt tr p)) := by
          rcases Nat.le_total p q with hpq' | hpq'
          · refine (k.segL hr hS hcl' p (fun b hb => ?_) q hpq' (by omega) (fun j i' o' x1 x2 x3 x4 x5 => hE j i' o' x3 x4 x5 (.inl ⟨x1, x2⟩))).2 hvq
            -- the machine's frame points to it
            obtain ⟨m, hm⟩ : ∃ m, ρ b = some m := by
              have hb' : blkOf frD o = some b := by
                rw [← hb]
                unfold blkOf
                unfold clsOf at hcl'
                cases hop : o.op <;> simp only <;> rw [hop] at hrd' <;> simp only [Op.operands] at hrd'
                · rw [hrd' _ (by simp)]
                · rw [hrd' _ (by simp)]
              unfold blkOf at hb'
              split at hb'
              · split at hb' <;> (try cases hb')
                rename_i hev
                have := ev_rel v.fr.fr hev
                simp only [VR] at this
                obtain ⟨m, hm, _⟩ := this
                exact ⟨m, hm⟩
              · split at hb' <;> (try cases hb')
                rename_i hev
                have := ev_rel v.fr.fr hev
                simp only [VR] at this
                obtain ⟨m, hm, _⟩ := this
                exact ⟨m, hm⟩
              · cases hb'
            exact v.stp.hr.dom1 hm
          · refine (k.segL hr hS hcl' q (fun b hb => ?_) p hpq' v.ple (fun j i' o' x1 x2 x3 x4 x5 => hE j i' o' x3 x4 x5 (.inr ⟨?_, x2⟩))).1 hvq
            · have := (hzz b hb).1
              rw [e1] at this
              exact this
            · have : j ≠ q := fun e => by
                subst e
                rw [hqi] at x3; injection x3 with x3; subst x3
                rw [ho] at x4; injection x4 with x4; subst x4
                rw [hcl'] at x5; cases x5
              omega
        rw [← iop_congr hrd'] at e4
        have hst : stepOp T call N frD o (hAt tr p) (sAt tr p) = some (frD', hAt tr p, sAt tr p) := stepOp_of (R := some y) (by unfold resOp; rw [e4]) hp
        refine .inl (step_sound hT hS hst (hA' p v.ple) v.fr v.stp.hr (fun a1 w1 ρ1 g1 g2 => ?_))
        refine hgo p ρ1 a1 w1 v.ple (fun q' i' o' x1 x2 x3 x4 => .inr (v.lo q' i' o' x1 x2 x3 x4)) (fun q' i' o' x1 x2 x3 x4 => ⟨fun e => ?_, v.hi q' i' o' x1 x2 x3 x4⟩) g1 (fun q' i' o' x1 x2 x3 x4 x5 x6 => ?_) (v.stp.trans d0 g2)
        · subst e
          rw [ho] at x3; injection x3 with x3; subst x3
          rw [hcl'] at x4; rcases x4 with x4 | x4 <;> cases x4
        · have hn := v.fresh q' i' o' x1 x2 x3 x4 x6
          cases hn1 : ρ1 (hAt tr q').n with
          | none => rfl
          | some m =>
            have y1 := (g2.frm.fresh _ _ hn1 hn).1
            have y2 := (g2.hr.dom _ _ hn1).1
            omega
      | A =>
        obtain ⟨y, obj, rfl, e1, e2, e3⟩ := resOp_lay hcl' hres
        have hbar' := hbar (.inr hcl')
        -- up to behind the operation
        have hmx : p ≤ max p (q + 1) ∧ max p (q + 1) ≤ ord.length := ⟨Nat.le_max_left _ _, Nat.max_le.2 ⟨v.ple, hql⟩⟩
        have v' := v.bump k hr hS d0 hmx.1 hmx.2 (fun q' i' o' x1 x2 x3 x4 x5 => by
          have : q' ≤ q := by
            rcases Nat.lt_or_ge q' (q + 1) with h | h
            · omega
            · omega
          rcases Nat.lt_or_eq_of_le this with h | h
          · exact hbar' q' i' o' x1 h x3 x4 x5
          · subst h
            rw [hqi] at x3; injection x3 with x3; subst x3
            rw [ho] at x4; injection x4 with x4; subst x4
            rw [hcl'] at x5; cases x5)
        generalize hpp : max p (q + 1) = p' at v' hmx
        have hq1 : q + 1 ≤ p' := by omega
        obtain ⟨z1, z2⟩ := dyn_at k hd hqi ho (.inr hcl') hw (b := (hAt tr q).n) (by simp only [blkAt, hcl'])
        have hobj : (hAt tr p').get (hAt tr q).n = obj := by
          rw [k.seg hr hS (q + 1) _ z1 p' hq1 hmx.2 (fun j i' o' x1 x2 x3 x4 x5 => ?_), e1, IH.get_alloc, if_pos rfl]
          obtain ⟨f1, f2⟩ := hfree j i' o' x3 x4 x5 (.inr ⟨by omega, by omega⟩)
          rcases z2 j i' o' x3 x4 x5 f1 f2 with g | g
          · exact g
          · -- what lays a block answers no number
            exfalso
            unfold sameVal at g
            split at g <;> (try cases g)
            exact clsA_noInt hcl' (by assumption)
        have e3' : iop T frD o (hAt tr q) = some (.val y ((hAt tr q).alloc obj)) := by rw [iop_congr hrd']; exact e3
        obtain ⟨obj', mk, ee, hrun⟩ := clsA (P := P) (ρ := ρ) (a := a) (w := w) hT hcl' v.fr.fr e3'
        obtain ⟨O, size, v1, r1, r2, r3⟩ := hrun
        injection ee with ee1 ee2
        have hobj' : obj' = obj := by
          have := congrArg (fun h => IH.get h (hAt tr q).n) ee2
          simp only [IH.get_alloc, if_pos] at this
          exact this.symm
        subst hobj'
        have hnone := v'.fresh q i o hqi ho hcl' hw hnd
        have hidlt : (hAt tr q).n < (hAt tr p').n := Nat.lt_of_lt_of_le z1 (k.ext hr hS (q + 1) p' hq1 hmx.2).1.n
        have hid0 : (hAt tr 0).n ≤ (hAt tr q).n := (k.ext hr hS 0 q (Nat.zero_le _) (by omega)).1.n
        have hlay := v'.stp.lay hid0 hidlt hnone hobj (r2 _ B (hAt tr q).n (Ren.le_add _ _ _ hnone) (Ren.add_same _ _ _) v'.stp.hr.base)
        refine .inl ?_
        unfold Oper.wp
        rw [r1, Oper.upon_value]
        refine hgo p' _ _ _ hmx.2 (fun q' i' o' x1 x2 x3 x4 => .inr (v'.lo q' i' o' x1 x2 x3 x4)) (fun q' i' o' x1 x2 x3 x4 => ⟨fun e => ?_, v'.hi q' i' o' x1 x2 x3 x4⟩)
          ((v.fr.mono (Ren.le_add _ _ _ hnone)).put hp (by rw [ee1]; exact r3 _ _ (Ren.add_same _ _ _))) (fun q' i' o' x1 x2 x3 x4 x5 x6 => ?_) hlay
        · subst e
          have := hself q' x2
          omega
        · have hn := v'.fresh q' i' o' x1 x2 x3 x4 x6
          rw [Ren.add_other]
          · exact hn
          · -- each lays its own
            obtain ⟨R2, hres2, _⟩ := k.op' hr x1 x2
            unfold resOne at hres2
            rw [if_pos x4] at hres2
            obtain ⟨_, obj2, _, d1, _, _⟩ := resOp_lay x3 hres2
            have hq'l : q' < ord.length := by
              rcases Nat.lt_or_ge q' ord.length with h | h
              · exact h
              · rw [List.getElem?_eq_none h] at x1; cases x1
            have hne : q' ≠ q := fun e => by
              subst e
              rw [hqi] at x1; injection x1 with x1
              exact x5 x1.symm
            have n1 : (hAt tr (q' + 1)).n = (hAt tr q').n + 1 := by rw [d1]; rfl
            have n2 : (hAt tr (q + 1)).n = (hAt tr q).n + 1 := by rw [e1]; rfl
            rcases Nat.lt_or_gt_of_ne hne with h | h
            · have := (k.ext hr hS (q' + 1) q h (by omega)).1.n
              omega
            · have := (k.ext hr hS (q + 1) q' h (by omega)).1.n
              omega
      | E =>
        have hbar' := hbar (.inl hcl')
        have v' := v.bump k hr hS d0 (hpq hcl') (by omega) (fun q' i' o' x1 x2 x3 x4 => hbar' q' i' o' x1 x2 x3 x4)
        have hres' : resOp T call frD o (hAt tr q) (sAt tr q) = some (R, hAt tr (q + 1), sAt tr (q + 1)) := by rw [resOp_congr hrd']; exact hres
        have hst := stepOp_of (N := N) hres' hp
        refine .inl (step_sound hT hS hst (hA' (q + 1) hql) v'.fr v'.stp.hr (fun a1 w1 ρ1 g1 g2 => ?_))
        refine hgo (q + 1) ρ1 a1 w1 hql (fun q' i' o' x1 x2 x3 x4 => ?_) (fun q' i' o' x1 x2 x3 x4 => ⟨fun e => ?_, v'.hi q' i' o' (by omega) x2 x3 x4⟩) g1 (fun q' i' o' x1 x2 x3 x4 x5 x6 => ?_) (v'.stp.trans d0 g2)
        · rcases Nat.lt_or_eq_of_le (Nat.le_of_lt_succ x1) with h | h
          · exact .inr (v'.lo q' i' o' h x2 x3 x4)
          · subst h
            rw [hqi] at x2; injection x2 with x2
            exact .inl x2.symm
        · subst e
          have := hself q' x2
          omega
        · have hn := v'.fresh q' i' o' x1 x2 x3 x4 x6
          cases hn1 : ρ1 (hAt tr q').n with
          | none => rfl
          | some m =>
            have y1 := (g2.frm.fresh _ _ hn1 hn).1
            have y2 := (g2.hr.dom _ _ hn1).1
            have hq'l : q' < ord.length := by
              rcases Nat.lt_or_ge q' ord.length with h | h
              · exact h
              · rw [List.getElem?_eq_none h] at x1; cases x1
            have hne : q' ≠ q := fun e => by
              subst e
              rw [hqi] at x1; injection x1 with x1
              exact x5 x1.symm
            rcases Nat.lt_or_gt_of_ne hne with h | h
            · obtain ⟨R2, hres2, _⟩ := k.op' hr x1 x2
              unfold resOne at hres2
              rw [if_pos x4] at hres2
              obtain ⟨_, obj2, _, d1, _, _⟩ := resOp_lay x3 hres2
              have n1 : (hAt tr (q' + 1)).n = (hAt tr q').n + 1 := by rw [d1]; rfl
              have := (k.ext hr hS (q' + 1) q h (by omega)).1.n
              omega
            · have := (k.ext hr hS (q + 1) q' h (by omega)).1.n
              omega
    · rw [if_neg hw] at hres ⊢
      simp only [Option.some.injEq, Prod.mk.injEq] at hres
      obtain ⟨rfl, e1, e2⟩ := hres
      have hfr := v.fr.put hp (v := undef) rfl
      cases hcl' : clsOf T o with
      | E =>
        have v' := v.bump k hr hS d0 (p' := q) (hpq hcl') (by omega) (fun q' i' o' x1 x2 x3 x4 => hbar (.inl hcl') q' i' o' x1 x2 x3 x4)
        refine hgo (q + 1) ρ _ w hql (fun q' i' o' x1 x2 x3 x4 => ?_) (fun q' i' o' x1 x2 x3 x4 => ⟨fun e => ?_, v'.hi q' i' o' (by omega) x2 x3 x4⟩) hfr (fun q' i' o' x1 x2 x3 x4 x5 x6 => v'.fresh q' i' o' x1 x2 x3 x4 x6) (by rw [← e1]; exact v'.stp)
        · rcases Nat.lt_or_eq_of_le (Nat.le_of_lt_succ x1) with h | h
          · exact .inr (v'.lo q' i' o' h x2 x3 x4)
          · subst h
            rw [hqi] at x2; injection x2 with x2
            exact .inl x2.symm
        · subst e
          have := hself q' x2
          omega
      | A =>
        have hmx : p ≤ max p (q + 1) ∧ max p (q + 1) ≤ ord.length := ⟨Nat.le_max_left _ _, Nat.max_le.2 ⟨v.ple, hql⟩⟩
        have v' := v.bump k hr hS d0 hmx.1 hmx.2 (fun q' i' o' x1 x2 x3 x4 x5 => by
          have : q' ≤ q := by
            rcases Nat.lt_or_ge q' (q + 1) with h | h
            · omega
            · omega
          rcases Nat.lt_or_eq_of_le this with h | h
          · exact hbar (.inr hcl') q' i' o' x1 h x3 x4 x5
          · subst h
            rw [hqi] at x3; injection x3 with x3; subst x3
            rw [ho] at x4; injection x4 with x4; subst x4
            rw [hcl'] at x5; cases x5)
        generalize hpp : max p (q + 1) = p' at v' hmx
        refine hgo p' ρ _ w hmx.2 (fun q' i' o' x1 x2 x3 x4 => .inr (v'.lo q' i' o' x1 x2 x3 x4)) (fun q' i' o' x1 x2 x3 x4 => ⟨fun e => ?_, v'.hi q' i' o' x1 x2 x3 x4⟩) hfr (fun q' i' o' x1 x2 x3 x4 x5 x6 => v'.fresh q' i' o' x1 x2 x3 x4 x6) v'.stp
        subst e
        have := hself q' x2
        omega
      | P =>
        refine hgo p ρ _ w v.ple (fun q' i' o' x1 x2 x3 x4 => .inr (v.lo q' i' o' x1 x2 x3 x4)) (fun q' i' o' x1 x2 x3 x4 => ⟨fun e => ?_, v.hi q' i' o' x1 x2 x3 x4⟩) hfr (fun q' i' o' x1 x2 x3 x4 x5 x6 => v.fresh q' i' o' x1 x2 x3 x4 x6) v.stp
        subst e
        rw [ho] at x3; injection x3 with x3; subst x3
        rw [hcl'] at x4; rcases x4 with x4 | x4 <;> cases x4
      | L =>
        refine hgo p ρ _ w v.ple (fun q' i' o' x1 x2 x3 x4 => .inr (v.lo q' i' o' x1 x2 x3 x4)) (fun q' i' o' x1 x2 x3 x4 => ⟨fun e => ?_, v.hi q' i' o' x1 x2 x3 x4⟩) hfr (fun q' i' o' x1 x2 x3 x4 x5 x6 => v.fresh q' i' o' x1 x2 x3 x4 x6) v.stp
        subst e
        rw [ho] at x3; injection x3 with x3; subst x3
        rw [hcl'] at x4; rcases x4 with x4 | x4 <;> cases x4

end
end Go.Ae
