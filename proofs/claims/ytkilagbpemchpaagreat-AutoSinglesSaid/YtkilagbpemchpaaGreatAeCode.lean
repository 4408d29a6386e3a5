/-
  The executor of code and of calls.
-/
import Derived.Test.YtkilagbpemchpaaGreatAeReg
import Derived.LoopN
import Derived.Scope
set_option linter.unusedVariables false
set_option linter.unusedSimpArgs false
namespace Go.Ae
open Go Go.RowKit

inductive IX where
  | norm | exit (id : Nat) | ret

abbrev CodeR := Option (IX × Tr IV × IH × Side)

def loopF (body : Tr IV → IH → Side → CodeR) : Nat → Tr IV → IH → Side → CodeR
  | 0, _, _, _ => none
  | n + 1, fr, h, s => match body fr h s with
    | some (.norm, fr1, h1, s1) => loopF body n fr1 h1 s1
    | r => r

def drawF (T : Tabs) (call : CallF) (N : Nat) (ops : Array Oper) (ri : RI) (fr : Tr IV) (h : IH) (s : Side) : CodeR :=
  match runT T call N ops ri.ord fr h s with
  | some (fn, tr) => if dynOK T ops ri.ord tr ri.chk then some (.norm, fn, hAt tr ri.ord.length, sAt tr ri.ord.length) else none
  | none => none

/-- `fuel`: how many rounds a loop may take. -/
def icode (T : Tabs) (RT : Nat → Option RI) (call : CallF) (N fuel : Nat) : Code → Tr IV → IH → Side → CodeR
  | .skip, fr, h, s => some (.norm, fr, h, s)
  | .label _, fr, h, s => some (.norm, fr, h, s)
  | .region id ops draw, fr, h, s =>
    if draw then match RT id with
      | some ri => drawF T call N ops ri fr h s
      | none => none
    else match runOps T call N ops ops.toList fr h s with
      | some (fr1, h1, s1) => some (.norm, fr1, h1, s1)
      | none => none
  | .seq a b, fr, h, s => match icode T RT call N fuel a fr h s with
    | some (.norm, fr1, h1, s1) => icode T RT call N fuel b fr1 h1 s1
    | r => r
  | .cond c a b, fr, h, s => match ev fr c with
    | some (.bool true) => icode T RT call N fuel a fr h s
    | some (.bool false) => icode T RT call N fuel b fr h s
    | _ => none
  | .block id c, fr, h, s => match icode T RT call N fuel c fr h s with
    | some (.exit id', fr1, h1, s1) => if id' = id then some (.norm, fr1, h1, s1) else some (.exit id', fr1, h1, s1)
    | r => r
  | .loop c, fr, h, s => loopF (icode T RT call N fuel c) fuel fr h s
  | .exit id, fr, h, s => some (.exit id, fr, h, s)
  | .ret, fr, h, s => some (.ret, fr, h, s)
  | .scope c, fr, h, s => icode T RT call N fuel c fr h s
  | _, _, _, _ => none

def codeOK (T : Tabs) (RT : Nat → Option RI) (N : Nat) : Code → Bool
  | .region id ops draw => if draw then match RT id with
      | some ri => regOK T N ops.toList ri
      | none => true
    else ops.toList.all fun o => match o.dst with | some d => Nat.blt d N | none => true
  | .seq a b => codeOK T RT N a && codeOK T RT N b
  | .cond _ a b => codeOK T RT N a && codeOK T RT N b
  | .block _ c => codeOK T RT N c
  | .loop c => codeOK T RT N c
  | .scope c => codeOK T RT N c
  | _ => true

def IX.rel : IX → Exit
  | .norm => .normal
  | .exit id => .exit id
  | .ret => .ret

section
variable {P : Program} {T : Tabs} {call : CallF} {N : Nat} {RT : Nat → Option RI}

theorem loopF_side {body : Tr IV → IH → Side → CodeR} (hb : ∀ fr h s x fr1 h1 s1, body fr h s = some (x, fr1, h1, s1) → Ext h h1 ∧ ∃ l, s1.asm = l ++ s.asm) : ∀ (n : Nat) {fr fr1 : Tr IV} {h h1 : IH} {s s1 : Side} {x : IX}, loopF body n fr h s = some (x, fr1, h1, s1) → Ext h h1 ∧ ∃ l, s1.asm = l ++ s.asm
  | 0, fr, fr1, h, h1, s, s1, x, hr => by simp [loopF] at hr
  | n + 1, fr, fr1, h, h1, s, s1, x, hr => by
    simp only [loopF] at hr
    split at hr
    · rename_i e
      obtain ⟨a1, a2⟩ := hb _ _ _ _ _ _ _ e
      obtain ⟨b1, b2⟩ := loopF_side hb n hr
      exact ⟨a1.trans b1, side_trans a2 b2⟩
    · exact hb _ _ _ _ _ _ _ hr

theorem stepOp_ext (hS : Sound P call) {fr fr1 : Tr IV} {o : Oper} {h h1 : IH} {s s1 : Side} (hr : stepOp T call N fr o h s = some (fr1, h1, s1)) : Ext h h1 := by
  obtain ⟨R, e, _⟩ := stepOp_res hr
  exact (resOp_ext hS e).1

theorem runOps_ext (hS : Sound P call) {ops : Array Oper} : ∀ {l : List Oper} {fr fr1 : Tr IV} {h h1 : IH} {s s1 : Side}, runOps T call N ops l fr h s = some (fr1, h1, s1) → Ext h h1
  | [], fr, fr1, h, h1, s, s1, hr => by simp only [runOps, Option.some.injEq, Prod.mk.injEq] at hr; obtain ⟨rfl, rfl, rfl⟩ := hr; exact Ext.refl _
  | o :: l, fr, fr1, h, h1, s, s1, hr => by
    simp only [runOps] at hr
    split at hr <;> (try cases hr)
    rename_i h0
    obtain ⟨R, e, _⟩ := oneOp_res h0
    exact (resOne_ext hS e).1.trans (runOps_ext hS hr)

theorem draw_side (hS : Sound P call) {ops : Array Oper} {ri : RI} (k : RF T N ops ri.ord (ancB ri.mask) ri.chk) {fr fr1 : Tr IV} {h h1 : IH} {s s1 : Side} {x : IX} (hr : drawF T call N ops ri fr h s = some (x, fr1, h1, s1)) : Ext h h1 ∧ ∃ l, s1.asm = l ++ s.asm := by
  unfold drawF at hr
  split at hr <;> (try cases hr)
  rename_i fn tr e
  split at hr <;> (try cases hr)
  obtain ⟨t0, _⟩ := runT_facts _ e
  have := k.ext e hS 0 ri.ord.length (Nat.zero_le _) (Nat.le_refl _)
  have e0 : hAt tr 0 = h := by simp [hAt, t0]
  have e1 : sAt tr 0 = s := by simp [sAt, t0]
  rw [e0, e1] at this
  exact this

theorem icode_side (hS : Sound P call) {fuel : Nat} : ∀ (c : Code), codeOK T RT N c = true → ∀ {fr fr1 : Tr IV} {h h1 : IH} {s s1 : Side} {x : IX}, icode T RT call N fuel c fr h s = some (x, fr1, h1, s1) → Ext h h1 ∧ ∃ l, s1.asm = l ++ s.asm := by
  intro c
  induction c with
  | skip => intro _ fr fr1 h h1 s s1 x hr; cases hr; exact ⟨Ext.refl _, [], rfl⟩
  | label _ => intro _ fr fr1 h h1 s s1 x hr; cases hr; exact ⟨Ext.refl _, [], rfl⟩
  | exit _ => intro _ fr fr1 h h1 s s1 x hr; cases hr; exact ⟨Ext.refl _, [], rfl⟩
  | ret => intro _ fr fr1 h h1 s s1 x hr; cases hr; exact ⟨Ext.refl _, [], rfl⟩
  | region id ops draw =>
    intro hc fr fr1 h h1 s s1 x hr
    simp only [icode] at hr
    simp only [codeOK] at hc
    split at hr
    · rename_i hd
      rw [if_pos hd] at hc
      split at hr <;> (try cases hr)
      rename_i ri hri
      rw [hri] at hc
      exact draw_side hS (regOK_spec hc) hr
    · split at hr <;> (try cases hr)
      rename_i e
      exact ⟨runOps_ext hS e, runOps_side hS e⟩
  | seq a b iha ihb =>
    intro hc fr fr1 h h1 s s1 x hr
    simp only [icode] at hr
    simp only [codeOK, Bool.and_eq_true] at hc
    split at hr
    · rename_i e
      obtain ⟨a1, a2⟩ := iha hc.1 e
      obtain ⟨b1, b2⟩ := ihb hc.2 hr
      exact ⟨a1.trans b1, side_trans a2 b2⟩
    · exact iha hc.1 hr
  | cond c a b iha ihb =>
    intro hc fr fr1 h h1 s s1 x hr
    simp only [icode] at hr
    simp only [codeOK, Bool.and_eq_true] at hc
    split at hr <;> (try cases hr)
    · exact iha hc.1 hr
    · exact ihb hc.2 hr
  | block id c ih =>
    intro hc fr fr1 h h1 s s1 x hr
    simp only [icode] at hr
    simp only [codeOK] at hc
    split at hr
    · rename_i e
      split at hr <;> (cases hr; exact ih hc e)
    · exact ih hc hr
  | loop c ih =>
    intro hc fr fr1 h h1 s s1 x hr
    simp only [icode] at hr
    simp only [codeOK] at hc
    exact loopF_side (fun _ _ _ _ _ _ _ e => ih hc e) _ hr
  | scope c ih =>
    intro hc fr fr1 h h1 s s1 x hr
    simp only [icode] at hr
    simp only [codeOK] at hc
    exact ih hc hr
  | rangeFunc f p a b iha ihb => intro _ fr fr1 h h1 s s1 x hr; cases hr
  | goto l => intro _ fr fr1 h h1 s s1 x hr; cases hr
  | refuse s0 => intro _ fr fr1 h h1 s s1 x hr; cases hr

/-- What code answers, with what it has done. -/
def Ans (T : Tabs) (N : Nat) (ρ : Ren) (B : Nat) (h : IH) (w : World) (x : IX) (fr1 : Tr IV) (h1 : IH) : Exit → Act → World → Prop :=
  fun e a1 w1 => e = x.rel ∧ ∃ ρ1, FR2 ρ1 N fr1 a1 ∧ Stp ρ ρ1 B h h1 w w1

theorem draw_sound (hT : TabsOk P T) (hS : Sound P call) (hm : P.follows .mixedOrders = true) {id : Nat} {ops : Array Oper} {ri : RI} (k : RF T N ops ri.ord (ancB ri.mask) ri.chk) {fr fr1 : Tr IV} {h h1 : IH} {s s1 : Side} {x : IX} (hr : drawF T call N ops ri fr h s = some (x, fr1, h1, s1)) (hA : AsmOk s1)
    {ρ : Ren} {B : Nat} {a : Act} {w : World} (hf : FR2 ρ N fr a) (kk : HR ρ B h w) : (Code.region id ops true).wp P (Ans T N ρ B h w x fr1 h1) a w := by
  unfold drawF at hr
  split at hr <;> (try cases hr)
  rename_i fn tr e
  split at hr <;> (try cases hr)
  rename_i hd
  obtain ⟨t0, _⟩ := runT_facts _ e
  have e0 : hAt tr 0 = h := by simp [hAt, t0]
  refine wp_region_any hm ?_
  have kw : HR ρ B h { w with drawn := w.drawn + 1 } := kk.heap rfl
  refine any_sound k e hd hT hS hA (ρ0 := ρ) (B := B) (w0 := { w with drawn := w.drawn + 1 }) (fun b m hb => by rw [e0]; exact kk.dom1 hb) (fun a1 w1 ρ1 g1 g2 => ?_) ops.size _ a _ ρ 0 fr ?_ ?_
  · refine ⟨rfl, ρ1, g1, ?_⟩
    rw [e0] at g2
    exact g2.heap rfl rfl rfl rfl
  · refine Nat.le_trans List.countP_le_length ?_
    simp
  · have hnd : ∀ i, ¬ Done (Array.replicate ops.size false) i := fun i => by
      unfold Done
      simp only [Array.getD_eq_getD_getElem?, Array.getElem?_replicate]
      split <;> simp
    refine ⟨by simp, fun i o e hi => absurd hi (hnd i), Nat.zero_le _, fun q i o hq => by omega, fun q i o _ _ _ _ => hnd i, fun i d hi => absurd hi (hnd i), fun _ _ => rfl, hf, fun q i o hq ho hc hw _ => ?_, by rw [e0]; exact Stp.refl kw⟩
    cases hρ : ρ (hAt tr q).n with
    | none => rfl
    | some m =>
      exfalso
      have := kk.dom1 hρ
      have hql : q < ri.ord.length := by
        rcases Nat.lt_or_ge q ri.ord.length with h | h
        · exact h
        · rw [List.getElem?_eq_none h] at hq; cases hq
      have h2 := (k.ext e hS 0 q (Nat.zero_le _) (by omega)).1.n
      rw [e0] at h2
      omega

theorem loop_sound {fuel : Nat} {c : Code} {body : Tr IV → IH → Side → CodeR} (hx : ∀ fr h s x fr1 h1 s1, body fr h s = some (x, fr1, h1, s1) → ∃ l, s1.asm = l ++ s.asm)
    (hb : ∀ {fr fr1 : Tr IV} {h h1 : IH} {s s1 : Side} {x : IX}, body fr h s = some (x, fr1, h1, s1) → AsmOk s1 → ∀ {ρ : Ren} {B : Nat} {a : Act} {w : World}, FR2 ρ N fr a → HR ρ B h w → c.wp P (Ans T N ρ B h w x fr1 h1) a w)
    (hxx : ∀ (n : Nat) {fr fr1 : Tr IV} {h h1 : IH} {s s1 : Side} {x : IX}, loopF body n fr h s = some (x, fr1, h1, s1) → ∃ l, s1.asm = l ++ s.asm) :
    ∀ (n : Nat) {fr fr1 : Tr IV} {h h1 : IH} {s s1 : Side} {x : IX}, loopF body n fr h s = some (x, fr1, h1, s1) → AsmOk s1 → x.rel ≠ .normal ∧
      ∀ {ρ : Ren} {B : Nat} {a : Act} {w : World}, FR2 ρ N fr a → HR ρ B h w → ∀ (Q : Exit → Act → World → Prop), (∀ e a1 w1, Ans T N ρ B h w x fr1 h1 e a1 w1 → Q e a1 w1) → Code.rounds P c Q n a w
  | 0, fr, fr1, h, h1, s, s1, x, hr, hA => by simp [loopF] at hr
  | n + 1, fr, fr1, h, h1, s, s1, x, hr, hA => by
    simp only [loopF] at hr
    split at hr
    · rename_i frm hm sm e
      obtain ⟨q1, q2⟩ := loop_sound hx hb hxx n hr hA (fuel := fuel)
      refine ⟨q1, fun {ρ B a w} hf k Q hQ => ?_⟩
      rw [rounds_succ]
      refine wp_mono (hb e (hA.of (hxx n hr)) hf k) (fun ex a1 w1 hh => ?_)
      obtain ⟨rfl, ρ1, g1, g2⟩ := hh
      show Code.rounds P c Q n a1 w1
      refine q2 g1 g2.hr Q (fun e2 a2 w2 hh2 => hQ e2 a2 w2 ?_)
      obtain ⟨r1, ρ2, r2, r3⟩ := hh2
      exact ⟨r1, ρ2, r2, g2.trans (fun b m hb => k.dom1 hb) r3⟩
    · rename_i hnn
      have hxn : x.rel ≠ .normal := fun he => by
        cases x <;> simp only [IX.rel] at he <;> (try cases he)
        exact hnn fr1 h1 s1 hr
      refine ⟨hxn, fun {ρ B a w} hf k Q hQ => ?_⟩
      rw [rounds_succ]
      refine wp_mono (hb hr hA hf k) (fun ex a1 w1 hh => ?_)
      have h2 := hQ ex a1 w1 hh
      obtain ⟨rfl, _⟩ := hh
      cases x <;> first | exact h2 | exact absurd rfl hxn

theorem icode_sound (hT : TabsOk P T) (hS : Sound P call) (hm : P.follows .mixedOrders = true) {fuel : Nat} : ∀ (c : Code), codeOK T RT N c = true → ∀ {fr fr1 : Tr IV} {h h1 : IH} {s s1 : Side} {x : IX}, icode T RT call N fuel c fr h s = some (x, fr1, h1, s1) → AsmOk s1 →
    ∀ {ρ : Ren} {B : Nat} {a : Act} {w : World}, FR2 ρ N fr a → HR ρ B h w → c.wp P (Ans T N ρ B h w x fr1 h1) a w := by
  intro c
  induction c with
  | skip => intro _ fr fr1 h h1 s s1 x hr hA ρ B a w hf k; cases hr; exact wp_skip ⟨rfl, ρ, hf, Stp.refl k⟩
  | label _ => intro _ fr fr1 h h1 s s1 x hr hA ρ B a w hf k; cases hr; exact wp_label ⟨rfl, ρ, hf, Stp.refl k⟩
  | exit _ => intro _ fr fr1 h h1 s s1 x hr hA ρ B a w hf k; cases hr; exact wp_exit ⟨rfl, ρ, hf, Stp.refl k⟩
  | ret => intro _ fr fr1 h h1 s s1 x hr hA ρ B a w hf k; cases hr; exact wp_ret ⟨rfl, ρ, hf, Stp.refl k⟩
  | region id ops draw =>
    intro hc fr fr1 h h1 s s1 x hr hA ρ B a w hf k
    simp only [icode] at hr
    simp only [codeOK] at hc
    split at hr
    · rename_i hd
      rw [if_pos hd] at hc
      split at hr <;> (try cases hr)
      rename_i ri hri
      rw [hri] at hc
      subst hd
      exact draw_sound hT hS hm (regOK_spec hc) hr hA hf k
    · rename_i hd
      rw [if_neg hd] at hc
      have hd' : draw = false := by simpa using hd
      subst hd'
      split at hr <;> (try cases hr)
      rename_i e
      refine wp_region ?_
      have hb : ∀ o ∈ ops, ∀ d, o.dst = some d → d < N := fun o ho d hd => by
        have := List.all_eq_true.1 hc o (by simpa using ho)
        rw [hd] at this
        simpa [Nat.blt_eq] using this
      have := runOps_sound hT hS hb (Q := Ans T N ρ B h w .norm fr1 h1) (B := B) ops.toList 0 (by simp) e hA hf k (fun a1 w1 ρ1 g1 g2 => ⟨rfl, ρ1, g1, g2⟩)
      rw [List.range_eq_range']
      simpa using this
  | seq a b iha ihb =>
    intro hc fr fr1 h h1 s s1 x hr hA ρ B ac w hf k
    simp only [icode] at hr
    simp only [codeOK, Bool.and_eq_true] at hc
    refine wp_seq ?_
    split at hr
    · rename_i e
      refine wp_mono (iha hc.1 e (hA.of (icode_side hS b hc.2 hr).2) hf k) (fun ex a1 w1 hh => ?_)
      obtain ⟨rfl, ρ1, g1, g2⟩ := hh
      show b.wp P _ a1 w1
      refine wp_mono (ihb hc.2 hr hA g1 g2.hr) (fun e2 a2 w2 hh2 => ?_)
      obtain ⟨r1, ρ2, r2, r3⟩ := hh2
      exact ⟨r1, ρ2, r2, g2.trans (fun b m hb => k.dom1 hb) r3⟩
    · rename_i hnn
      refine wp_mono (iha hc.1 hr hA hf k) (fun ex a1 w1 hh => ?_)
      have h2 := hh
      obtain ⟨rfl, _⟩ := hh
      cases x <;> first | exact h2 | exact absurd hr (hnn _ _ _)
  | cond c a b iha ihb =>
    intro hc fr fr1 h h1 s s1 x hr hA ρ B ac w hf k
    simp only [icode] at hr
    simp only [codeOK, Bool.and_eq_true] at hc
    split at hr <;> (try cases hr)
    · rename_i e
      have := ev_rel hf.fr e
      simp only [VR] at this
      exact wp_cond_true this (iha hc.1 hr hA hf k)
    · rename_i e
      have := ev_rel hf.fr e
      simp only [VR] at this
      exact wp_cond_false this (ihb hc.2 hr hA hf k)
  | block id c ih =>
    intro hc fr fr1 h h1 s s1 x hr hA ρ B a w hf k
    simp only [icode] at hr
    simp only [codeOK] at hc
    refine wp_block ?_
    split at hr
    · rename_i id' frm hm' sm e
      have hs1 : AsmOk sm := by split at hr <;> (cases hr; exact hA)
      refine wp_mono (ih hc e hs1 hf k) (fun ex a1 w1 hh => ?_)
      obtain ⟨rfl, ρ1, g1, g2⟩ := hh
      show (if id' = id then _ else _)
      split at hr <;> (rename_i hid; cases hr)
      · rw [if_pos hid]; exact ⟨rfl, ρ1, g1, g2⟩
      · rw [if_neg hid]; exact ⟨rfl, ρ1, g1, g2⟩
    · rename_i hnn
      refine wp_mono (ih hc hr hA hf k) (fun ex a1 w1 hh => ?_)
      have h2 := hh
      obtain ⟨rfl, _⟩ := hh
      cases x <;> first | exact h2 | exact absurd hr (hnn _ _ _ _)
  | loop c ih =>
    intro hc fr fr1 h h1 s s1 x hr hA ρ B a w hf k
    simp only [icode] at hr
    simp only [codeOK] at hc
    refine wp_loop_rounds fuel ?_
    exact (loop_sound (fuel := fuel) (fun _ _ _ _ _ _ _ e => (icode_side hS c hc e).2) (fun e hA => ih hc e hA) (fun n {_ _ _ _ _ _ _} e => (loopF_side (fun _ _ _ _ _ _ _ e => icode_side hS c hc e) n e).2) fuel hr hA).2 hf k _ (fun _ _ _ h => h)
  | scope c ih =>
    intro hc fr fr1 h h1 s s1 x hr hA ρ B a w hf k
    simp only [icode] at hr
    simp only [codeOK] at hc
    refine wp_scope_straight (wp_mono (ih hc hr hA hf k) (fun ex a1 w1 hh => ?_))
    have h2 := hh
    obtain ⟨rfl, _⟩ := hh
    cases x <;> exact h2
  | rangeFunc f p a b iha ihb => intro _ fr fr1 h h1 s s1 x hr; cases hr
  | goto l => intro _ fr fr1 h h1 s s1 x hr; cases hr
  | refuse s0 => intro _ fr fr1 h h1 s s1 x hr; cases hr

end
end Go.Ae
