/-
  How the ideal heap stands to the machine's world, and what a step may turn.
-/
import Derived.Test.YtkilagbpemchpaaGreatAeVals
set_option linter.unusedVariables false
set_option linter.unusedSimpArgs false
namespace Go.Ae
open Go Go.RowKit

def ERs (ρ : Ren) : List (IV × IV × Nat) → List MapEntry → Prop
  | [], l => l = []
  | x :: xs, l => ∃ y ys, l = y :: ys ∧ VR ρ x.1 y.key ∧ VR ρ x.2.1 y.val ∧ x.2.2 = y.born ∧ ERs ρ xs ys

theorem ERs.mono {ρ ρ' : Ren} (h : ρ.le ρ') : ∀ (xs : List (IV × IV × Nat)) (l : List MapEntry), ERs ρ xs l → ERs ρ' xs l
  | [], _, k => k
  | x :: xs, _, ⟨y, ys, e, h1, h2, h3, h4⟩ => ⟨y, ys, e, VR.mono h _ _ h1, VR.mono h _ _ h2, h3, ERs.mono h _ _ h4⟩

/-- An ideal block and what lies where it is said to lie. -/
def OR (ρ : Ren) (B : Nat) (m : Pl) : IO → Option Obj → Prop
  | .cells rw _ cs, o => ∃ (c : List Value) (e : TypeId) (fr : Nat × Nat), o = some (.cells c.toArray e fr) ∧ m.size = c.length ∧ VRs ρ cs ((c.drop m.sh).take cs.length) ∧ (rw = true → fr = (0, 0) ∧ B ≤ m.blk)
  | .map _ es clock, o => ∃ es' : List MapEntry, o = some (.map es'.toArray clock) ∧ ERs ρ es es' ∧ B ≤ m.blk
  | .dead _, _ => True

theorem OR.mono {ρ ρ' : Ren} (h : ρ.le ρ') {B : Nat} {m : Pl} {i : IO} {o : Option Obj} (k : OR ρ B m i o) : OR ρ' B m i o := by
  cases i with
  | cells rw ver cs => obtain ⟨c, e, fr, h1, h2, h3, h4⟩ := k; exact ⟨c, e, fr, h1, h2, VRs.mono h _ _ h3, h4⟩
  | map ver es clock => obtain ⟨es', h1, h2, h3⟩ := k; exact ⟨es', h1, ERs.mono h _ _ h2, h3⟩
  | dead v => trivial

structure HR (ρ : Ren) (B : Nat) (h : IH) (w : World) : Prop where
  dom : ∀ b m, ρ b = some m → b < h.n ∧ m.blk < w.heap.size
  inj : ∀ b c m l, ρ b = some m → ρ c = some l → (h.get b).isDead = false → (h.get c).isDead = false → m.blk = l.blk → b = c
  obj : ∀ b m, ρ b = some m → OR ρ B m (h.get b) w.heap[m.blk]?
  base : B ≤ w.heap.size

/-- What the ideal heap may do in a step. -/
structure Ext (h h1 : IH) : Prop where
  n : h.n ≤ h1.n
  wl : h1.wl ≤ h.wl
  ver : ∀ b, b < h.n → h1.get b = h.get b ∨ ((h.get b).ver < (h1.get b).ver ∧ h1.wl ≤ b)
  dead : ∀ b, b < h.n → (h.get b).isDead = true → (h1.get b).isDead = true

theorem Ext.refl (h : IH) : Ext h h := ⟨Nat.le_refl _, Nat.le_refl _, fun _ _ => .inl rfl, fun _ _ k => k⟩

theorem Ext.vle {h h1 : IH} (e : Ext h h1) {b : Nat} (hb : b < h.n) : (h.get b).ver ≤ (h1.get b).ver := by
  rcases e.ver b hb with k | ⟨k, _⟩
  · rw [k]; exact Nat.le_refl _
  · omega

theorem Ext.trans {h h1 h2 : IH} (e : Ext h h1) (k : Ext h1 h2) : Ext h h2 where
  n := Nat.le_trans e.n k.n
  wl := Nat.le_trans k.wl e.wl
  ver b hb := by
    have hb1 : b < h1.n := Nat.lt_of_lt_of_le hb e.n
    rcases e.ver b hb with p | ⟨p, q⟩
    · rcases k.ver b hb1 with p' | ⟨p', q'⟩
      · exact .inl (p'.trans p)
      · exact .inr ⟨by rw [← p]; exact p', q'⟩
    · exact .inr ⟨Nat.lt_of_lt_of_le p (k.vle hb1), Nat.le_trans k.wl q⟩
  dead b hb hd := k.dead b (Nat.lt_of_lt_of_le hb e.n) (e.dead b hb hd)

def touched (h h1 : IH) (b : Nat) : Prop := (h.get b).ver < (h1.get b).ver ∧ h1.wl ≤ b

/-- What the world may do in a step. -/
structure Frm (ρ ρ1 : Ren) (B : Nat) (h h1 : IH) (w w1 : World) : Prop where
  os : w1.os = w.os
  tape : w1.tape = w.tape
  output : w1.output = w.output
  size : w.heap.size ≤ w1.heap.size
  block : ∀ k, k < w.heap.size → w1.heap[k]? = w.heap[k]? ∨ (B ≤ k ∧ ∃ b m, ρ b = some m ∧ m.blk = k ∧ touched h h1 b)
  fresh : ∀ j m, ρ1 j = some m → ρ j = none → h.n ≤ j ∧ (w.heap.size ≤ m.blk ∨ (B ≤ m.blk ∧ ∃ b m0, ρ b = some m0 ∧ m0.blk = m.blk ∧ touched h h1 b))

/-- A step of both. -/
structure Stp (ρ ρ1 : Ren) (B : Nat) (h h1 : IH) (w w1 : World) : Prop where
  le : ρ.le ρ1
  ext : Ext h h1
  hr : HR ρ1 B h1 w1
  frm : Frm ρ ρ1 B h h1 w w1

theorem Stp.refl {ρ : Ren} {B : Nat} {h : IH} {w : World} (k : HR ρ B h w) : Stp ρ ρ B h h w w :=
  ⟨ρ.le_refl, Ext.refl h, k, rfl, rfl, rfl, Nat.le_refl _, fun _ _ => .inl rfl, fun j m a b => by rw [a] at b; cases b⟩

theorem HR.dom1 {ρ : Ren} {B : Nat} {h : IH} {w : World} (k : HR ρ B h w) {b : Nat} {m : Pl} (e : ρ b = some m) : b < h.n := (k.dom b m e).1

theorem Stp.trans {ρ ρ1 ρ2 : Ren} {B : Nat} {h h1 h2 : IH} {w w1 w2 : World} (d : ∀ b m, ρ b = some m → b < h.n) (a : Stp ρ ρ1 B h h1 w w1) (c : Stp ρ1 ρ2 B h1 h2 w1 w2) : Stp ρ ρ2 B h h2 w w2 where
  le := Ren.le_trans a.le c.le
  ext := a.ext.trans c.ext
  hr := c.hr
  frm := by
    have up1 : ∀ b m, ρ b = some m → touched h h1 b → touched h h2 b := fun b m hb t =>
      ⟨Nat.lt_of_lt_of_le t.1 (c.ext.vle (Nat.lt_of_lt_of_le (d b m hb) a.ext.n)), Nat.le_trans c.ext.wl t.2⟩
    have up2 : ∀ b m, ρ b = some m → touched h1 h2 b → touched h h2 b := fun b m hb t =>
      ⟨Nat.lt_of_le_of_lt (a.ext.vle (d b m hb)) t.1, t.2⟩
    refine ⟨c.frm.os.trans a.frm.os, c.frm.tape.trans a.frm.tape, c.frm.output.trans a.frm.output, Nat.le_trans a.frm.size c.frm.size, ?_, ?_⟩
    · intro k hk
      rcases a.frm.block k hk with p | ⟨hB, b, m, hb, hm, t⟩
      · rcases c.frm.block k (Nat.lt_of_lt_of_le hk a.frm.size) with q | ⟨hB, b, m, hb, hm, t⟩
        · exact .inl (q.trans p)
        · cases hρ : ρ b with
          | some m' =>
            have : m' = m := by have := a.le b m' hρ; rw [hb] at this; injection this with this; exact this.symm
            subst this
            exact .inr ⟨hB, b, _, hρ, hm, up2 b _ hρ t⟩
          | none =>
            obtain ⟨_, f⟩ := a.frm.fresh b m hb hρ
            rcases f with f | ⟨_, b0, m0, h0, e0, t0⟩
            · omega
            · exact .inr ⟨hB, b0, m0, h0, e0.trans hm, up1 _ _ h0 t0⟩
      · exact .inr ⟨hB, b, m, hb, hm, up1 _ _ hb t⟩
    · intro j m hj hn
      cases h1j : ρ1 j with
      | some m' =>
        have : m' = m := by have := c.le j m' h1j; rw [hj] at this; injection this with this; exact this.symm
        subst this
        obtain ⟨p, f⟩ := a.frm.fresh j _ h1j hn
        refine ⟨p, ?_⟩
        rcases f with f | ⟨hB, b0, m0, h0, e0, t0⟩
        · exact .inl f
        · exact .inr ⟨hB, b0, m0, h0, e0, up1 _ _ h0 t0⟩
      | none =>
        obtain ⟨p, f⟩ := c.frm.fresh j m hj h1j
        refine ⟨Nat.le_trans a.ext.n p, ?_⟩
        rcases f with f | ⟨hB, b0, m0, h0, e0, t0⟩
        · exact .inl (Nat.le_trans a.frm.size f)
        · cases hρ : ρ b0 with
          | some m' =>
            have : m' = m0 := by have := a.le b0 m' hρ; rw [h0] at this; injection this with this; exact this.symm
            subst this
            exact .inr ⟨hB, b0, _, hρ, e0, up2 _ _ hρ t0⟩
          | none =>
            obtain ⟨_, g⟩ := a.frm.fresh b0 m0 h0 hρ
            rcases g with g | ⟨_, b1, m1, h1, e1, t1⟩
            · exact .inl (by omega)
            · exact .inr ⟨hB, b1, m1, h1, e1.trans e0, up1 _ _ h1 t1⟩

/-- The draws turn nothing. -/
theorem HR.heap {ρ : Ren} {B : Nat} {h : IH} {w w1 : World} (k : HR ρ B h w) (e : w1.heap = w.heap) : HR ρ B h w1 :=
  ⟨by rw [e]; exact k.dom, k.inj, by rw [e]; exact k.obj, by rw [e]; exact k.base⟩

theorem Stp.heap {ρ ρ1 : Ren} {B : Nat} {h h1 : IH} {w w0 w1 : World} (k : Stp ρ ρ1 B h h1 w0 w1) (e : w0.heap = w.heap) (e1 : w0.os = w.os) (e2 : w0.tape = w.tape) (e3 : w0.output = w.output) : Stp ρ ρ1 B h h1 w w1 :=
  ⟨k.le, k.ext, k.hr, k.frm.os.trans e1, k.frm.tape.trans e2, k.frm.output.trans e3, by rw [← e]; exact k.frm.size, by rw [← e]; exact k.frm.block, by rw [← e]; exact k.frm.fresh⟩

/-- What a whole call leaves as it was. -/
theorem Stp.below {ρ ρ1 : Ren} {B : Nat} {h h1 : IH} {w w1 : World} (k : Stp ρ ρ1 B h h1 w w1) (hB : B ≤ w.heap.size) : Below B w w1 :=
  ⟨k.frm.os, k.frm.tape, k.frm.output, k.frm.size, fun i hi => by
    rcases k.frm.block i (Nat.lt_of_lt_of_le hi hB) with p | ⟨p, _⟩
    · exact p
    · omega⟩

/-! ### The heap's own moves -/
def IH.alloc (h : IH) (o : IO) : IH := { h with n := h.n + 1, t := h.t.put h.n (some o) }
def IH.write (h : IH) (b : Nat) (o : IO) : IH := { h with t := h.t.put b (some o), wl := min h.wl b }

theorem IH.get_alloc (h : IH) (o : IO) (b : Nat) : (h.alloc o).get b = if b = h.n then o else h.get b := by
  unfold IH.get IH.alloc
  simp only [Tr.get_put]
  split <;> rfl
theorem IH.get_write (h : IH) (b : Nat) (o : IO) (j : Nat) : (h.write b o).get j = if j = b then o else h.get j := by
  unfold IH.get IH.write
  simp only [Tr.get_put]
  split <;> rfl

theorem Ext.alloc (h : IH) (o : IO) : Ext h (h.alloc o) where
  n := Nat.le_succ _
  wl := Nat.le_refl _
  ver b hb := .inl (by rw [IH.get_alloc, if_neg (by omega)])
  dead b hb k := by rw [IH.get_alloc, if_neg (by omega)]; exact k

theorem Ext.write (h : IH) (b : Nat) (o : IO) (hv : (h.get b).ver < o.ver) (hd : (h.get b).isDead = true → o.isDead = true) : Ext h (h.write b o) where
  n := Nat.le_refl _
  wl := Nat.min_le_left _ _
  ver c hc := by
    rw [IH.get_write]
    by_cases e : c = b
    · subst e; rw [if_pos rfl]; exact .inr ⟨hv, Nat.min_le_right _ _⟩
    · rw [if_neg e]; exact .inl rfl
  dead c hc k := by
    rw [IH.get_write]
    by_cases e : c = b
    · subst e; rw [if_pos rfl]; exact hd k
    · rw [if_neg e]; exact k

/-- A new block on both sides. -/
def Ren.add (ρ : Ren) (b : Nat) (m : Pl) : Ren := fun x => if x = b then some m else ρ x
theorem Ren.add_same (ρ : Ren) (b : Nat) (m : Pl) : ρ.add b m b = some m := by simp [Ren.add]
theorem Ren.add_other (ρ : Ren) (b : Nat) (m : Pl) (x : Nat) (h : x ≠ b) : ρ.add b m x = ρ x := by simp [Ren.add, h]
theorem Ren.le_add (ρ : Ren) (b : Nat) (m : Pl) (h : ρ b = none) : ρ.le (ρ.add b m) := fun x l hx => by
  by_cases e : x = b
  · subst e; rw [h] at hx; cases hx
  · rw [Ren.add_other _ _ _ _ e]; exact hx

theorem stp_alloc {ρ : Ren} {B : Nat} {h : IH} {w : World} (k : HR ρ B h w) (o : IO) (O : Obj) (size : Nat)
    (ho : OR (ρ.add h.n ⟨w.heap.size, 0, size⟩) B ⟨w.heap.size, 0, size⟩ o (some O)) :
    Stp ρ (ρ.add h.n ⟨w.heap.size, 0, size⟩) B h (h.alloc o) w { w with heap := w.heap.push O } := by
  have hnew : ρ h.n = none := by
    cases e : ρ h.n with
    | none => rfl
    | some m => exact absurd (k.dom _ _ e).1 (Nat.lt_irrefl _)
  have hle := ρ.le_add h.n ⟨w.heap.size, 0, size⟩ hnew
  refine ⟨hle, Ext.alloc h o, ⟨?_, ?_, ?_, ?_⟩, rfl, rfl, rfl, by simp, ?_, ?_⟩
  · intro b m hb
    by_cases e : b = h.n
    · subst e; rw [Ren.add_same] at hb; injection hb with hb; subst hb; exact ⟨Nat.lt_succ_self _, by simp⟩
    · rw [Ren.add_other _ _ _ _ e] at hb
      have := k.dom b m hb
      exact ⟨Nat.lt_succ_of_lt this.1, by simp; omega⟩
  · intro b c m l hb hc db dc e
    by_cases eb : b = h.n <;> by_cases ec : c = h.n
    · rw [eb, ec]
    · subst eb
      rw [Ren.add_same] at hb; injection hb with hb; subst hb
      rw [Ren.add_other _ _ _ _ ec] at hc
      have := (k.dom c l hc).2
      simp only at e
      omega
    · subst ec
      rw [Ren.add_same] at hc; injection hc with hc; subst hc
      rw [Ren.add_other _ _ _ _ eb] at hb
      have := (k.dom b m hb).2
      simp only at e
      omega
    · rw [Ren.add_other _ _ _ _ eb] at hb
      rw [Ren.add_other _ _ _ _ ec] at hc
      rw [IH.get_alloc, if_neg eb] at db
      rw [IH.get_alloc, if_neg ec] at dc
      exact k.inj b c m l hb hc db dc e
  · intro b m hb
    by_cases e : b = h.n
    · subst e
      rw [Ren.add_same] at hb; injection hb with hb; subst hb
      rw [IH.get_alloc, if_pos rfl]
      simpa using ho
    · rw [Ren.add_other _ _ _ _ e] at hb
      rw [IH.get_alloc, if_neg e]
      have := k.obj b m hb
      have hlt := (k.dom b m hb).2
      have he : (w.heap.push O)[m.blk]? = w.heap[m.blk]? := by rw [Array.getElem?_push, if_neg (by omega)]
      show OR _ B m (h.get b) ((w.heap.push O)[m.blk]?)
      rw [he]
      exact this.mono hle
  · have := k.base
    show B ≤ (w.heap.push O).size
    rw [Array.size_push]
    omega
  · intro i hi
    refine .inl ?_
    show (w.heap.push O)[i]? = _
    rw [Array.getElem?_push, if_neg (by omega)]
  · intro j m hj hn
    by_cases e : j = h.n
    · subst e; rw [Ren.add_same] at hj; injection hj with hj; subst hj; exact ⟨Nat.le_refl _, .inl (Nat.le_refl _)⟩
    · rw [Ren.add_other _ _ _ _ e] at hj; rw [hj] at hn; cases hn

/-- A block is written on both sides. -/
theorem stp_write {ρ : Ren} {B : Nat} {h : IH} {w : World} (k : HR ρ B h w) (b : Nat) (m : Pl) (hb : ρ b = some m) (o : IO) (O : Obj)
    (hl : (h.get b).isDead = false) (hv : (h.get b).ver < o.ver) (hB : B ≤ m.blk) (ho : OR ρ B m o (some O)) (w1 : World) (hw : w1 = { w with heap := w.heap.setIfInBounds m.blk O }) :
    Stp ρ ρ B h (h.write b o) w w1 := by
  subst hw
  have hlt := (k.dom b m hb).2
  refine ⟨ρ.le_refl, Ext.write h b o hv (fun hd => by rw [hl] at hd; cases hd), ⟨?_, ?_, ?_, ?_⟩, rfl, rfl, rfl, by simp, ?_, ?_⟩
  · intro c l hc
    have := k.dom c l hc
    exact ⟨this.1, by simpa using this.2⟩
  · intro c d l p hc hd dc dd e
    refine k.inj c d l p hc hd ?_ ?_ e
    · by_cases ec : c = b
      · subst ec; exact hl
      · rw [IH.get_write, if_neg ec] at dc; exact dc
    · by_cases ed : d = b
      · subst ed; exact hl
      · rw [IH.get_write, if_neg ed] at dd; exact dd
  · intro c l hc
    rw [IH.get_write]
    show OR ρ B l _ ((w.heap.setIfInBounds m.blk O)[l.blk]?)
    by_cases ec : c = b
    · subst ec
      rw [hb] at hc; injection hc with hc; subst hc
      rw [if_pos rfl, Array.getElem?_setIfInBounds_self_of_lt hlt]
      exact ho
    · rw [if_neg ec]
      by_cases e : m.blk = l.blk
      · cases hd : (h.get c).isDead with
        | true =>
          cases hg : h.get c with
          | dead v => trivial
          | cells _ _ _ => rw [hg] at hd; cases hd
          | map _ _ _ => rw [hg] at hd; cases hd
        | false => exact absurd (k.inj b c m l hb hc hl hd e).symm ec
      · rw [Array.getElem?_setIfInBounds_ne e]
        exact k.obj c l hc
  · simpa using k.base
  · intro i hi
    by_cases e : m.blk = i
    · refine .inr ⟨e ▸ hB, b, m, hb, e, ?_, ?_⟩
      · rw [IH.get_write, if_pos rfl]; exact hv
      · exact Nat.min_le_right _ _
    · exact .inl (Array.getElem?_setIfInBounds_ne e)
  · intro j l hj hn
    rw [hj] at hn; cases hn

end Go.Ae
