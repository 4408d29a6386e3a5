/-
  The operations on the ideal heap are the machine's: cells, pointers, values.
-/
import Derived.Test.YtkilagbpemchpaaGreatAeOps
set_option linter.unusedVariables false
set_option linter.unusedSimpArgs false
namespace Go.Ae
open Go Go.RowKit

/-! ### 1. Values -/
def FR (ρ : Ren) (fr : Tr IV) (a : Act) : Prop := ∀ t v, fr.get t = some v → ∃ v', a.tmps[t]? = some v' ∧ VR ρ v v'

theorem FR.mono {ρ ρ' : Ren} (h : ρ.le ρ') {fr : Tr IV} {a : Act} (k : FR ρ fr a) : FR ρ' fr a := fun t v ht => by
  obtain ⟨v', e, r⟩ := k t v ht
  exact ⟨v', e, VR.mono h _ _ r⟩

theorem VR_ofVal1 (ρ : Ren) {v : Value} {x : IV} (h : ofVal1 v = some x) : VR ρ x v := by
  unfold ofVal1 at h
  split at h <;> simp at h
  · subst h; simp [VR]
  · subst h; simp [VR]
  · subst h; simp [VR]
  · subst h; simp [VR]
  · subst h; simp [VR]
  · subst h; simp [VR]

theorem mapO_all {ρ : Ren} : ∀ {l : List Value} {xs : List IV}, mapO ofVal1 l = some xs → VRs ρ xs l
  | [], xs, h => by simp [mapO] at h; subst h; simp [VRs]
  | v :: l, xs, h => by
    simp only [mapO] at h
    split at h
    · cases h
    · rename_i y hy
      split at h
      · cases h
      · rename_i ys hys
        injection h with h; subst h
        exact ⟨v, l, rfl, VR_ofVal1 ρ hy, mapO_all hys⟩

theorem VR_ofVal (ρ : Ren) {v : Value} {x : IV} (h : ofVal v = some x) : VR ρ x v := by
  unfold ofVal at h
  split at h
  · rename_i cs
    split at h
    · rename_i l hl
      injection h with h; subst h
      exact ⟨cs.toList, by simp, mapO_all hl⟩
    · cases h
  · exact VR_ofVal1 ρ h

theorem ev_rel {ρ : Ren} {fr : Tr IV} {a : Act} (hf : FR ρ fr a) {o : Operand} {x : IV} (h : ev fr o = some x) : VR ρ x (a.eval o) := by
  cases o with
  | tmp t =>
    obtain ⟨v', e, r⟩ := hf t x h
    simp only [Act.eval, Array.getD_eq_getD_getElem?, e, Option.getD_some]
    exact r
  | const v => exact VR_ofVal ρ h
  | global g => simp [ev] at h
  | func f => simp only [ev, Option.some.injEq] at h; subst h; exact ⟨[], rfl, by simp [VRs]⟩

theorem mapO_ev {ρ : Ren} {fr : Tr IV} {a : Act} (hf : FR ρ fr a) : ∀ {l : List Operand} {xs : List IV}, mapO (ev fr) l = some xs → VRs ρ xs (l.map a.eval)
  | [], xs, h => by simp [mapO] at h; subst h; simp [VRs]
  | v :: l, xs, h => by
    simp only [mapO] at h
    split at h
    · cases h
    · rename_i y hy
      split at h
      · cases h
      · rename_i ys hys
        injection h with h; subst h
        exact ⟨a.eval v, l.map a.eval, rfl, ev_rel hf hy, mapO_ev hf hys⟩

/-! ### 2. Types -/
def TDok : TD → TypeDesc → Prop
  | .bool, d => d = .bool
  | .int k, d => d = .int k
  | .str, d => d = .string
  | .ptr e, d => d = .pointer e
  | .slice e, d => d = .slice e
  | .array n e, d => d = .array n e
  | .map k e, d => d = .map k e
  | .struct fs, d => ∃ a : Array Field, d = .struct a ∧ a.toList.map (fun f => (f.offset, f.type)) = fs
  | .func, d => ∃ p r v, d = .func p r v

structure TIok (P : Program) (t : TypeId) (i : TI) : Prop where
  info : ∃ f : TypeInfo, P.info? t = some f ∧ f.size = i.size ∧ f.bytes = i.bytes ∧ ∀ z, i.zero = some z → ∃ v, f.zero = some v ∧ ∀ ρ, VR ρ z v
  und : ∃ d, P.underlying t = some d ∧ TDok i.d d

theorem run_sizeOf {P : Program} {t : TypeId} {i : TI} (h : TIok P t i) (w : World) : (sizeOf t).run P w = .ok i.size w := by
  obtain ⟨f, hf, h1, _⟩ := h.info
  simp [sizeOf, typeInfo, hf, h1]
theorem run_zero {P : Program} {t : TypeId} {i : TI} (h : TIok P t i) {z : IV} (hz : i.zero = some z) : ∃ v, (∀ w, (zeroValue t).run P w = .ok v w) ∧ ∀ ρ, VR ρ z v := by
  obtain ⟨f, hf, _, _, h1⟩ := h.info
  obtain ⟨v, hv, hr⟩ := h1 z hz
  exact ⟨v, fun w => by simp [zeroValue, typeInfo, hf, hv], hr⟩
theorem run_isAgg {P : Program} {t : TypeId} {i : TI} (h : TIok P t i) (w : World) : (isAgg t).run P w = .ok i.d.agg w := by
  obtain ⟨d, hd, hk⟩ := h.und
  cases hi : i.d <;> rw [hi] at hk <;> simp only [TDok] at hk <;> (try obtain ⟨a, rfl, _⟩ := hk) <;> (try subst hk) <;> (try obtain ⟨p, r, v, rfl⟩ := hk) <;> simp [isAgg, run_underlying hd, TD.agg]

/-! ### 3. Cells -/
theorem addr_add (b o n : Nat) : (⟨b, o, none⟩ : Addr).add n = ⟨b, o + n, none⟩ := by unfold Addr.add; split <;> simp_all

theorem take_drop_get {α : Type} (l : List α) (o n j : Nat) (hj : j < n) : ((l.drop o).take n)[j]? = l[o + j]? := by
  rw [List.getElem?_take, if_pos hj, List.getElem?_drop]

theorem load_rel {P : Program} {ρ : Ren} {B : Nat} {h : IH} {w : World} (k : HR ρ B h w) {b o n : Nat} {m : Pl} (hb : ρ b = some m) {l : List IV} (hl : getCells h b o n = some l) :
    ∃ l' : List Value, (loadCells ⟨m.blk, m.sh + o, none⟩ n).run P w = .ok l'.toArray w ∧ VRs ρ l l' ∧ l'.length = n ∧ ∀ j v, l'[j]? = some v → w.cell? ⟨m.blk, m.sh + o + j, none⟩ = some v := by
  unfold getCells at hl
  have hor := k.obj b m hb
  split at hl
  · rename_i rw ver cs hg
    rw [hg] at hor
    obtain ⟨c, e, fr, h1, h2, h3, _⟩ := hor
    split at hl
    · rename_i hlen
      injection hl with hl; subst hl
      have hcl := h3.length
      have h4 := (h3.drop o).take n
      have e1 : ((((c.drop m.sh).take cs.length).drop o).take n) = (c.drop (m.sh + o)).take n := by
        rw [List.drop_take, List.drop_drop, List.take_take]
        congr 1
        rw [List.length_take, List.length_drop] at hlen
        omega
      rw [e1] at h4
      have hlen' : ((c.drop (m.sh + o)).take n).length = n := by rw [h4.length]; exact hlen
      have hcell : ∀ j v, ((c.drop (m.sh + o)).take n)[j]? = some v → w.cell? ⟨m.blk, m.sh + o + j, none⟩ = some v := by
        intro j v hj
        have hjn : j < n := by have := (List.getElem?_eq_some_iff.1 hj).1; omega
        rw [take_drop_get _ _ _ _ hjn] at hj
        simp [World.cell?, h1, hj]
      refine ⟨_, ?_, h4, hlen', hcell⟩
      have := run_loadCells_list (P := P) w ⟨m.blk, m.sh + o, none⟩ ((c.drop (m.sh + o)).take n) (fun j v hj => by rw [addr_add]; exact hcell j v hj)
      rw [hlen'] at this
      exact this
    · cases hl
  · cases hl

theorem splice_list {α : Type} (c : List α) (sh o n : Nat) (v : List α) (h : sh + n ≤ c.length) (hf : o + v.length ≤ n) :
    ((c.take (sh + o) ++ v ++ c.drop (sh + o + v.length)).drop sh).take n = ((c.drop sh).take n).take o ++ (v ++ ((c.drop sh).take n).drop (o + v.length)) := by
  apply List.ext_getElem?
  intro j
  simp only [List.getElem?_take, List.getElem?_drop, List.getElem?_append, List.length_append, List.length_take, List.length_drop]
  repeat' split
  all_goals first
    | rfl
    | omega
    | (congr 1; omega)
    | (rw [List.getElem?_eq_none (by omega)]; done)
    | (symm; exact List.getElem?_eq_none (by omega))
    | exact List.getElem?_eq_none (by omega)

theorem splice_rel {ρ : Ren} {cs : List IV} {c : List Value} {sh o : Nat} {vs : List IV} {vs' : List Value} (h3 : VRs ρ cs ((c.drop sh).take cs.length)) (hv : VRs ρ vs vs') (hfit : o + vs.length ≤ cs.length) :
    VRs ρ (splice cs o vs) (((c.take (sh + o) ++ vs' ++ c.drop (sh + o + vs'.length)).drop sh).take (splice cs o vs).length) ∧ (splice cs o vs).length = cs.length ∧ (c.take (sh + o) ++ vs' ++ c.drop (sh + o + vs'.length)).length = c.length := by
  have hvl := hv.length
  have hcl := h3.length
  rw [List.length_take, List.length_drop] at hcl
  have e0 : (splice cs o vs).length = cs.length := by
    unfold splice
    simp only [List.length_append, List.length_take, List.length_drop]
    omega
  have hlen : (c.take (sh + o) ++ vs' ++ c.drop (sh + o + vs'.length)).length = c.length := by
    simp only [List.length_append, List.length_take, List.length_drop]
    by_cases hz : cs.length = 0
    · omega
    · omega
  refine ⟨?_, e0, hlen⟩
  rw [e0]
  have h5 := (h3.take o).append (hv.append (h3.drop (o + vs.length)))
  by_cases hz : cs.length = 0
  · have hc0 : cs = [] := List.eq_nil_of_length_eq_zero hz
    have hv0 : vs = [] := List.eq_nil_of_length_eq_zero (by omega)
    subst hc0 hv0
    simp [splice, VRs]
  have e := splice_list c sh o cs.length vs' (by omega) (by omega)
  rw [hvl] at e
  rw [hvl]
  rw [e]
  exact h5

theorem all_one {ρ : Ren} : ∀ {vs : List IV} {vs' : List Value}, VRs ρ vs vs' → vs.all IV.one = true → ∀ v ∈ vs', v.oneCell' = true
  | [], _, h, _, v, hv => by simp only [VRs] at h; subst h; simp at hv
  | x :: xs, _, h, ho, v, hv => by
    simp only [VRs] at h
    obtain ⟨y, ys, rfl, h1, h2⟩ := h
    simp only [List.all_cons, Bool.and_eq_true] at ho
    rcases List.mem_cons.1 hv with rfl | hv
    · exact h1.one ho.1
    · exact all_one h2 ho.2 v hv

theorem store_rel {P : Program} {ρ : Ren} {B : Nat} {h h1 : IH} {w : World} (k : HR ρ B h w) {b o : Nat} {m : Pl} (hb : ρ b = some m) {vs : List IV} {vs' : List Value} (hv : VRs ρ vs vs') (hs : setCells h b o vs = some h1) :
    ∃ w1, (storeCells ⟨m.blk, m.sh + o, none⟩ vs').run P w = .ok () w1 ∧ Stp ρ ρ B h h1 w w1 := by
  unfold setCells at hs
  have hor := k.obj b m hb
  split at hs
  · rename_i ver cs hg
    rw [hg] at hor
    obtain ⟨c, e, fr, h1', h2, h3, h4⟩ := hor
    obtain ⟨rfl, hB⟩ := h4 rfl
    split at hs
    · rename_i hfit
      split at hs
      · rename_i hone
        injection hs with hs; subst hs
        have hvl := hv.length
        have hcl := h3.length
        rw [List.length_take, List.length_drop] at hcl
        obtain ⟨s1, s2, s3⟩ := splice_rel h3 hv hfit
        have hfit' : m.sh + o + vs'.length ≤ c.length ∨ (vs' = [] ∧ cs.length = 0) := by
          by_cases hz : cs.length = 0
          · right; exact ⟨List.eq_nil_of_length_eq_zero (by omega), hz⟩
          · left; omega
        have hrun : ∃ w1, (storeCells ⟨m.blk, m.sh + o, none⟩ vs').run P w = .ok () w1 ∧ w1 = { w with heap := w.heap.setIfInBounds m.blk (.cells (c.take (m.sh + o) ++ vs' ++ c.drop (m.sh + o + vs'.length)).toArray e (0, 0)) } := by
          rcases hfit' with hf | ⟨rfl, _⟩
          · have := run_storeCells_at P m.blk (m.sh + o) e vs' 0 c.toArray w h1' (by simpa using hf) (all_one hv hone)
            refine ⟨_, this, ?_⟩
            simp only [Nat.add_zero]
            unfold World.setRow
            congr 1
            apply Array.ext_getElem?
            intro i
            rw [Array.getElem?_modify]
            by_cases hi : m.blk = i
            · subst hi
              rw [if_pos rfl, h1']
              have hlt := (k.dom b m hb).2
              rw [Array.getElem?_setIfInBounds_self_of_lt hlt]
              simp
            · rw [if_neg hi, Array.getElem?_setIfInBounds_ne hi]
          · refine ⟨w, by simp [storeCells], ?_⟩
            simp only [List.append_nil, List.length_nil, Nat.add_zero, List.take_append_drop]
            have hself : w.heap.setIfInBounds m.blk (.cells c.toArray e (0, 0)) = w.heap := by
              apply Array.ext_getElem?
              intro i
              by_cases hi : m.blk = i
              · subst hi
                rw [Array.getElem?_setIfInBounds_self_of_lt (k.dom b m hb).2, h1']
              · rw [Array.getElem?_setIfInBounds_ne hi]
            rw [hself]
        obtain ⟨w1, r1, r2⟩ := hrun
        refine ⟨w1, r1, ?_⟩
        refine stp_write k b m hb _ _ (by rw [hg]; rfl) (by rw [hg]; exact Nat.lt_succ_self _) hB ?_ w1 r2
        exact ⟨_, e, (0, 0), rfl, by rw [s3, h2], s1, fun _ => ⟨rfl, hB⟩⟩
      · cases hs
    · cases hs
  · cases hs

end Go.Ae
