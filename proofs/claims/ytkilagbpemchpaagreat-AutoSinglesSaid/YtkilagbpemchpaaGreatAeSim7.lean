/-
  The operations on the ideal heap are the machine's: append.
-/
import Derived.Test.YtkilagbpemchpaaGreatAeSim6
set_option linter.unusedVariables false
set_option linter.unusedSimpArgs false
namespace Go.Ae
open Go Go.RowKit

section
variable {P : Program} {T : Tabs} {fr : Tr IV} {o : Oper} {h : IH} {ρ : Ren} {B : Nat} {a : Act} {w : World}

theorem stp_inplace (k : HR ρ B h w) {b : Nat} {m : Pl} (hb : ρ b = some m) {ver : Nat} {cs : List IV} (hg : h.get b = .cells true ver cs) {news : List IV} {c : List Value} {e : TypeId} {sh : Nat}
    (hl : m.size = c.length) (hr : VRs ρ news ((c.drop sh).take news.length)) :
    Stp ρ (ρ.add h.n ⟨m.blk, sh, m.size⟩) B h ((h.write b (.dead (ver + 1))).news news) w { w with heap := w.heap.setIfInBounds m.blk (.cells c.toArray e (0, 0)) } := by
  have hnew : ρ h.n = none := by
    cases e : ρ h.n with
    | none => rfl
    | some m => exact absurd (k.dom _ _ e).1 (Nat.lt_irrefl _)
  have hle := ρ.le_add h.n ⟨m.blk, sh, m.size⟩ hnew
  have hlt := k.dom b m hb
  have hB : B ≤ m.blk := by have := k.obj b m hb; rw [hg] at this; obtain ⟨_, _, _, _, _, _, h4⟩ := this; exact (h4 rfl).2
  have hlive : (h.get b).isDead = false := by rw [hg]; rfl
  have hget : ∀ x, ((h.write b (.dead (ver + 1))).news news).get x = if x = h.n then .cells true 0 news else if x = b then .dead (ver + 1) else h.get x := by
    intro x
    unfold IH.news
    rw [IH.get_alloc, IH.get_write]
    rfl
  have hext : Ext h ((h.write b (.dead (ver + 1))).news news) := (Ext.write h b _ (by rw [hg]; exact Nat.lt_succ_self _) (fun _ => rfl)).trans (Ext.alloc _ _)
  have htouch : touched h ((h.write b (.dead (ver + 1))).news news) b := by
    refine ⟨?_, Nat.min_le_right _ _⟩
    rw [hget, if_neg (Nat.ne_of_lt hlt.1), if_pos rfl, hg]
    exact Nat.lt_succ_self _
  refine ⟨hle, hext, ⟨?_, ?_, ?_, ?_⟩, rfl, rfl, rfl, by simp, ?_, ?_⟩
  · intro x l hx
    by_cases ex : x = h.n
    · subst ex; rw [Ren.add_same] at hx; injection hx with hx; subst hx; exact ⟨Nat.lt_succ_self _, by simpa using hlt.2⟩
    · rw [Ren.add_other _ _ _ _ ex] at hx
      have := k.dom x l hx
      exact ⟨Nat.lt_succ_of_lt this.1, by simpa using this.2⟩
  · have key : ∀ x l, ρ x = some l → (((h.write b (.dead (ver + 1))).news news).get x).isDead = false → x ≠ h.n → l.blk ≠ m.blk := by
      intro x l hx dx nx e
      rw [hget, if_neg nx] at dx
      by_cases xb : x = b
      · rw [if_pos xb] at dx; cases dx
      · rw [if_neg xb] at dx
        exact xb (k.inj x b l m hx hb dx hlive e)
    intro x y l p hx hy dx dy e
    by_cases ex : x = h.n <;> by_cases ey : y = h.n
    · rw [ex, ey]
    · subst ex
      rw [Ren.add_same] at hx; injection hx with hx; subst hx
      rw [Ren.add_other _ _ _ _ ey] at hy
      exact absurd e.symm (key y p hy dy ey)
    · subst ey
      rw [Ren.add_same] at hy; injection hy with hy; subst hy
      rw [Ren.add_other _ _ _ _ ex] at hx
      exact absurd e (key x l hx dx ex)
    · rw [Ren.add_other _ _ _ _ ex] at hx
      rw [Ren.add_other _ _ _ _ ey] at hy
      rw [hget, if_neg ex] at dx
      rw [hget, if_neg ey] at dy
      have xb : x ≠ b := by intro q; rw [if_pos q] at dx; cases dx
      have yb : y ≠ b := by intro q; rw [if_pos q] at dy; cases dy
      rw [if_neg xb] at dx
      rw [if_neg yb] at dy
      exact k.inj x y l p hx hy dx dy e
  · intro x l hx
    show OR _ B l _ ((w.heap.setIfInBounds m.blk _)[l.blk]?)
    rw [hget]
    by_cases ex : x = h.n
    · subst ex
      rw [Ren.add_same] at hx; injection hx with hx; subst hx
      rw [if_pos rfl, Array.getElem?_setIfInBounds_self_of_lt hlt.2]
      exact ⟨c, e, (0, 0), rfl, hl, VRs.mono hle _ _ hr, fun _ => ⟨rfl, hB⟩⟩
    · rw [if_neg ex]
      rw [Ren.add_other _ _ _ _ ex] at hx
      by_cases xb : x = b
      · rw [if_pos xb]; trivial
      · rw [if_neg xb]
        cases hd : (h.get x).isDead with
        | true =>
          cases hgx : h.get x with
          | dead v => trivial
          | cells _ _ _ => rw [hgx] at hd; cases hd
          | map _ _ _ => rw [hgx] at hd; cases hd
        | false =>
          have hne : m.blk ≠ l.blk := fun q => xb (k.inj x b l m hx hb hd hlive q.symm)
          rw [Array.getElem?_setIfInBounds_ne hne]
          exact (k.obj x l hx).mono hle
  · simpa using k.base
  · intro i hi
    by_cases q : m.blk = i
    · exact .inr ⟨q ▸ hB, b, m, hb, q, htouch⟩
    · exact .inl (Array.getElem?_setIfInBounds_ne q)
  · intro j l hj hn
    by_cases ex : j = h.n
    · subst ex; rw [Ren.add_same] at hj; injection hj with hj; subst hj
      exact ⟨Nat.le_refl _, .inr ⟨hB, b, m, hb, rfl, htouch⟩⟩
    · rw [Ren.add_other _ _ _ _ ex] at hj; rw [hj] at hn; cases hn

theorem stp_kill (k : HR ρ B h w) {b : Nat} {ver : Nat} {cs : List IV} (hg : h.get b = .cells true ver cs) : Stp ρ ρ B h (h.write b (.dead (ver + 1))) w w := by
  refine ⟨ρ.le_refl, Ext.write h b _ (by rw [hg]; exact Nat.lt_succ_self _) (fun _ => rfl), ⟨k.dom, ?_, ?_, k.base⟩, rfl, rfl, rfl, Nat.le_refl _, fun _ _ => .inl rfl, fun j m hj hn => by rw [hj] at hn; cases hn⟩
  · intro x y l p hx hy dx dy e
    rw [IH.get_write] at dx dy
    have xb : x ≠ b := by intro q; rw [if_pos q] at dx; cases dx
    have yb : y ≠ b := by intro q; rw [if_pos q] at dy; cases dy
    rw [if_neg xb] at dx
    rw [if_neg yb] at dy
    exact k.inj x y l p hx hy dx dy e
  · intro x l hx
    rw [IH.get_write]
    by_cases xb : x = b
    · rw [if_pos xb]; trivial
    · rw [if_neg xb]; exact k.obj x l hx

/-! ### The machine's append -/
theorem run_app_room {t0 t1 e ty : TypeId} {d1 : TypeDesc} {te : TI} (h0 : P.underlying t0 = some (.slice e)) (h1 : P.underlying t1 = some d1) (hd : ∀ q, d1 ≠ .int q) (hte : TIok P e te)
    {base : Option Addr} {sLen sCap n : Nat} {x : Value} {news : List Value} (hlen : (Builtin.lenOf x).run P w = .ok n w) (hroom : sLen + n ≤ sCap) (hnew : (Builtin.firstCells te.size n x).run P w = .ok news.toArray w) :
    (Builtin.append_ #[t0, t1] ty #[.slice base sLen sCap, x]).run P w =
      (match base with | some a => (storeCells (a.add (sLen * te.size)) news).run P w | none => .ok () w).andThen fun _ w' => .ok (.slice base (sLen + n) sCap) w' := by
  have hS := run_sizeOf hte
  cases d1 <;> first
    | exact absurd rfl (hd _)
    | (simp only [Builtin.append_, List.getElem?_toArray, List.getElem?_cons_zero, List.getElem?_cons_succ, Sem.run_bind, run_underlying h0, run_underlying h1, Result.andThen_ok, hS, Sem.run_pure, hlen, Bool.false_eq_true, if_false, Bool.not_false, if_true, hroom, hnew]
       cases base <;> simp)

set_option maxHeartbeats 8000000 in
theorem run_app_grow {t0 t1 e ty : TypeId} {d1 : TypeDesc} {te : TI} (h0 : P.underlying t0 = some (.slice e)) (h1 : P.underlying t1 = some d1) (hd : ∀ q, d1 ≠ .int q) (hte : TIok P e te)
    {base : Option Addr} {sLen sCap n : Nat} {x : Value} {olds news : List Value} {z : IV} (hz : te.zero = some z) (hlen : (Builtin.lenOf x).run P w = .ok n w) (hroom : ¬ sLen + n ≤ sCap) (hby : 0 < te.bytes) (hfit : (sLen + n) * te.bytes ≤ 140737488355328)
    (hold : (Builtin.firstCells te.size sLen (.slice base sLen sCap)).run P w.drew = .ok olds.toArray w.drew) (hnew : (Builtin.firstCells te.size n x).run P w.drew = .ok news.toArray w.drew) :
    ∃ (cap : Nat) (rest : List Value), sLen + n ≤ cap ∧ rest.length = (cap - (sLen + n)) * z.cells.length ∧ (Builtin.append_ #[t0, t1] ty #[.slice base sLen sCap, x]).run P w =
      .ok (.slice (some ⟨w.heap.size, 0, none⟩) (sLen + n) cap) (w.drew.alloc (.cells (olds ++ news ++ rest).toArray e)) := by
  have hS := run_sizeOf hte
  obtain ⟨f, f1, f2, f3, _⟩ := hte.info
  obtain ⟨v, hv, hrel⟩ := run_zero hte hz
  have hti : ∀ w, (typeInfo e).run P w = .ok f w := fun w => by simp [typeInfo, f1]
  have hg := growslice_fits (need := sLen + n) (old := sCap) (bytes := te.bytes) (by omega) hfit
  have h48' : ¬ (281474976710656 < Builtin.nextslicecap (sLen + n) sCap * f.bytes) := by rw [f3]; omega
  have hsm : sLen + n ≤ 140737488355328 := Nat.le_trans (Nat.le_mul_of_pos_right _ hby) hfit
  have h63' : ¬ (9223372036854775807 < (sLen : Int) + (n : Int)) := by omega
  have hvl : v.cells.size = z.cells.length := by have := (hrel (fun _ => none)).cells.length; rw [Array.length_toList] at this; exact this
  refine ⟨grownCap w (sLen + n) sCap e, (Builtin.zeroCells v.cells (grownCap w (sLen + n) sCap e - (sLen + n))).toList, ?_, ?_, ?_⟩
  · exact grownCap_ge w (sLen + n) sCap e
  · rw [Array.length_toList, size_zeroCells, hvl]
  · cases d1 <;> first
      | exact absurd rfl (hd _)
      | (simp [Builtin.append_, run_underlying h0, run_underlying h1, hS, hti, hv, hlen, hroom, h63', h48', Question.forced, hold, hnew, newRow, grownCap]
         congr 2
         apply Array.ext'
         simp)

theorem firstCells_some {size n : Nat} {a : Addr} {c : Nat} : Builtin.firstCells size n (.slice (some a) n c) = loadCells a (n * size) := rfl
theorem firstCells_len {size n m : Nat} {a : Addr} {c : Nat} : Builtin.firstCells size n (.slice (some a) m c) = loadCells a (n * size) := rfl

theorem grown_rel (k : HR ρ B h w) {news : List IV} {all : List Value} {rest : List Value} (e : TypeId) (hr : VRs ρ news all) {n sz cap : Nat} (hl : news.length = n * sz) (hcap : n ≤ cap) (hrest : rest.length = (cap - n) * sz) :
    ∃ ρ1, VR ρ1 (.slice (some (h.n, 0)) n n sz) (.slice (some ⟨w.heap.size, 0, none⟩) n cap) ∧ Stp ρ ρ1 B h (h.news news) w (w.drew.alloc (.cells (all ++ rest).toArray e)) := by
  have hnew : ρ h.n = none := by
    cases e : ρ h.n with
    | none => rfl
    | some m => exact absurd (k.dom _ _ e).1 (Nat.lt_irrefl _)
  have hal := hr.length
  have k' : HR ρ B h w.drew := k.heap rfl
  have st := stp_alloc k' (.cells true 0 news) (.cells (all ++ rest).toArray e (0, 0)) (all ++ rest).length ⟨all ++ rest, e, (0, 0), rfl, rfl, by
    rw [List.drop_zero, ← hal, List.take_left]
    exact VRs.mono (Ren.le_add ρ h.n _ hnew) _ _ hr, fun _ => ⟨rfl, k.base⟩⟩
  refine ⟨_, ?_, st.heap rfl rfl rfl rfl⟩
  refine ⟨_, cap, 0, Ren.add_same _ _ _, rfl, Nat.le_refl _, hcap, .inl ⟨rfl, ?_⟩⟩
  simp only [Nat.zero_add, List.length_append, hal, hl, hrest]
  rw [← Nat.add_mul]
  exact Nat.le_of_eq (by congr 1; omega)

theorem app_rel (k : HR ρ B h w) {t0 t1 e ty : TypeId} {d1 : TypeDesc} {te : TI} {z : IV} (h0 : P.underlying t0 = some (.slice e)) (h1 : P.underlying t1 = some d1) (hd : ∀ q, d1 ≠ .int q) (hte : TIok P e te)
    (hz : te.zero = some z) (hzl : z.cells.length = te.size) {s : IV} {s' x : Value} (hs : VR ρ s s') {news : List IV} {news' : List Value} {n : Nat} (hnl : news.length = n * te.size) (hrn : VRs ρ news news')
    (hlen : (Builtin.lenOf x).run P w = .ok n w) (hnew : (Builtin.firstCells te.size n x).run P w = .ok news'.toArray w) (hnew' : (Builtin.firstCells te.size n x).run P w.drew = .ok news'.toArray w.drew)
    {r : INext} (hr : appendI te.size te.bytes s news n h = some r) :
    ∃ v h1 v' w1 ρ1, r = .val v h1 ∧ (Builtin.append_ #[t0, t1] ty #[s', x]).run P w = .ok v' w1 ∧ VR ρ1 v v' ∧ Stp ρ ρ1 B h h1 w w1 := by
  unfold appendI at hr
  split at hr <;> (try cases hr)
  rename_i hone
  split at hr <;> (try cases hr)
  · simp only [VR] at hs
    obtain ⟨rfl, rfl, rfl⟩ := hs
    split at hr
    · rename_i hn
      subst hn
      injection hr with hr; subst hr
      refine ⟨_, _, .slice none 0 0, w, ρ, rfl, ?_, by simp [VR], Stp.refl k⟩
      rw [run_app_room h0 h1 hd hte hlen (Nat.le_refl _) hnew]
      rfl
    · rename_i hn
      split at hr <;> (try cases hr)
      rename_i hb
      obtain ⟨cap, rest, c1, c2, c3⟩ := run_app_grow (base := none) (sLen := 0) (sCap := 0) (olds := []) (ty := ty) h0 h1 hd hte hz hlen (by omega) hb.1 (by rw [Nat.zero_add]; exact hb.2) (by simp [Builtin.firstCells]) hnew'
      rw [Nat.zero_add] at c1 c2 c3
      obtain ⟨ρ1, g1, g2⟩ := grown_rel k e hrn hnl c1 (by rw [c2, hzl])
      exact ⟨_, _, _, _, ρ1, rfl, c3, g1, by simpa using g2⟩
  · simp only [VR] at hs
    obtain ⟨a', rfl⟩ := hs
    split at hr
    · rename_i hn
      subst hn
      injection hr with hr; subst hr
      have hn' : news' = [] := List.eq_nil_of_length_eq_zero (by rw [hrn.length, hnl, Nat.zero_mul])
      subst hn'
      refine ⟨_, _, .slice (some a') 0 0, w, ρ, rfl, ?_, ⟨_, rfl⟩, Stp.refl k⟩
      rw [run_app_room h0 h1 hd hte hlen (Nat.le_refl _) hnew]
      simp [storeCells]
    · rename_i hn
      split at hr <;> (try cases hr)
      rename_i hb
      obtain ⟨cap, rest, c1, c2, c3⟩ := run_app_grow (base := some a') (sLen := 0) (sCap := 0) (olds := []) (ty := ty) h0 h1 hd hte hz hlen (by omega) hb.1 (by rw [Nat.zero_add]; exact hb.2) (by simp [Builtin.firstCells, loadCells, loadCellsFrom]) hnew'
      rw [Nat.zero_add] at c1 c2 c3
      obtain ⟨ρ1, g1, g2⟩ := grown_rel k e hrn hnl c1 (by rw [c2, hzl])
      exact ⟨_, _, _, _, ρ1, rfl, c3, g1, by simpa using g2⟩
  · rename_i b off ns c sz
    have hs0 := hs
    simp only [VR] at hs
    obtain ⟨m, c', o', hm, rfl, hnc, hcc, hoff⟩ := hs
    split at hr <;> (try cases hr)
    rename_i hsz
    subst hsz
    split at hr
    · rename_i hroom
      split at hr <;> (try cases hr)
      rename_i h1' hset
      by_cases hz0 : c = 0
      · have hn0 : n = 0 := by omega
        have hns0 : ns = 0 := by omega
        subst hn0 hns0
        have hn' : news' = [] := List.eq_nil_of_length_eq_zero (by rw [hrn.length, hnl, Nat.zero_mul])
        have hnn : news = [] := List.eq_nil_of_length_eq_zero (by rw [hnl, Nat.zero_mul])
        subst hn' hnn
        obtain ⟨w1, s1, s2⟩ := store_rel (P := P) k hm (vs' := []) (by simp [VRs]) hset
        have hw1 : w1 = w := by simp [storeCells] at s1; exact s1.symm
        subst hw1
        refine ⟨_, _, _, _, ρ, rfl, ?_, ⟨m, c', o', hm, rfl, hnc, hcc, hoff⟩, s2⟩
        rw [run_app_room h0 h1 hd hte hlen (by omega) hnew]
        simp [storeCells]
      · have ho' : o' = m.sh + off ∧ o' + c' * te.size ≤ m.size := by
          rcases hoff with q | q
          · exact q
          · exact absurd q.1 hz0
        obtain ⟨w1, s1, s2⟩ := store_rel (P := P) k hm hrn hset
        refine ⟨_, _, _, _, ρ, rfl, ?_, ⟨m, c', o', hm, rfl, hroom, hcc, .inl ho'⟩, s2⟩
        rw [run_app_room h0 h1 hd hte hlen (by omega) hnew]
        simp only [addr_add]
        rw [ho'.1, Nat.add_assoc, s1]
        rfl
    · rename_i hroom
      split at hr <;> (try cases hr)
      rename_i ver cs hg
      split at hr <;> (try cases hr)
      rename_i hol
      split at hr <;> (try cases hr)
      rename_i hb
      have hgc : getCells h b off (ns * te.size) = some ((cs.drop off).take (ns * te.size)) := by
        unfold getCells; rw [hg]; simp only; rw [if_pos hol]
      obtain ⟨olds', l1, l2, l3, l4⟩ := load_rel (P := P) k hm hgc
      have hall := l2.append hrn
      have hoff' : ns * te.size ≠ 0 → o' = m.sh + off := by
        intro q
        rcases hoff with q' | q'
        · exact q'.1
        · have : ns = 0 := by omega
          subst this; simp at q
      have hl1 : (loadCells ⟨m.blk, o', none⟩ (ns * te.size)).run P w = .ok olds'.toArray w := by
        by_cases q : ns * te.size = 0
        · rw [q] at l3 ⊢
          rw [List.eq_nil_of_length_eq_zero l3]
          rfl
        · rw [hoff' q]; exact l1
      have hlall : ((cs.drop off).take (ns * te.size) ++ news).length = (ns + n) * te.size := by rw [List.length_append, hol, hnl, Nat.add_mul]
      by_cases hreal : ns + n ≤ c'
      · -- in place
        have hc'0 : ¬ (c = 0 ∧ c' = 0) := by omega
        have ho' : o' = m.sh + off ∧ o' + c' * te.size ≤ m.size := by
          rcases hoff with q | q
          · exact q
          · exact absurd q hc'0
        have hor := k.obj b m hm
        rw [hg] at hor
        obtain ⟨cc, e', fr', q1, q2, q3, q4⟩ := hor
        obtain ⟨rfl, hB⟩ := q4 rfl
        have hfit : o' + ns * te.size + news'.length ≤ cc.length := by
          have : (ns + n) * te.size ≤ c' * te.size := Nat.mul_le_mul_right _ hreal
          rw [hrn.length, hnl, ← q2]
          rw [Nat.add_mul] at this
          omega
        have hst := run_storeCells_at P m.blk (o' + ns * te.size) e' news' 0 cc.toArray w q1 (by simpa using hfit) (all_one hrn hone)
        have hworld : w.setRow m.blk ((cc.toArray.toList.take (o' + ns * te.size + 0) ++ news' ++ cc.toArray.toList.drop (o' + ns * te.size + 0 + news'.length)).toArray) = { w with heap := w.heap.setIfInBounds m.blk (.cells (cc.take (o' + ns * te.size) ++ news' ++ cc.drop (o' + ns * te.size + news'.length)).toArray e' (0, 0)) } := by
          unfold World.setRow
          congr 1
          apply Array.ext_getElem?
          intro i
          rw [Array.getElem?_modify]
          by_cases hi : m.blk = i
          · subst hi
            rw [if_pos rfl, q1, Array.getElem?_setIfInBounds_self_of_lt (k.dom b m hm).2]
            simp
          · rw [if_neg hi, Array.getElem?_setIfInBounds_ne hi]
        have hcl : (cc.take (o' + ns * te.size) ++ news' ++ cc.drop (o' + ns * te.size + news'.length)).length = cc.length := by
          simp only [List.length_append, List.length_take, List.length_drop]
          omega
        have holds : (cc.drop o').take (ns * te.size) = olds' := by
          apply List.ext_getElem?
          intro j
          by_cases hj : j < ns * te.size
          · rw [take_drop_get _ _ _ _ hj]
            have hjl : j < olds'.length := by omega
            have := l4 j _ (List.getElem?_eq_getElem hjl)
            rw [List.getElem?_eq_getElem hjl]
            simp only [World.cell?, q1] at this
            have h2 : o' = m.sh + off := ho'.1
            rw [← h2] at this
            simpa using this
          · rw [List.getElem?_eq_none (by simp only [List.length_take]; omega), List.getElem?_eq_none (by omega)]
        have hnewcells : ((cc.take (o' + ns * te.size) ++ news' ++ cc.drop (o' + ns * te.size + news'.length)).drop o').take ((cs.drop off).take (ns * te.size) ++ news).length = olds' ++ news' := by
          rw [hlall]
          have e1 := splice_list cc o' (ns * te.size) ((ns + n) * te.size) news' (by rw [Nat.add_mul, ← hnl, ← hrn.length]; omega) (by rw [Nat.add_mul, hrn.length, hnl]; omega)
          rw [e1, List.take_take, Nat.min_eq_left (by rw [Nat.add_mul]; omega), holds]
          congr 1
          rw [List.drop_eq_nil_of_le (by simp only [List.length_take]; rw [hrn.length, hnl, Nat.add_mul]; omega), List.append_nil]
        have hst2 := stp_inplace k hm hg (news := (cs.drop off).take (ns * te.size) ++ news) (c := cc.take (o' + ns * te.size) ++ news' ++ cc.drop (o' + ns * te.size + news'.length)) (e := e') (sh := o') (by rw [hcl, q2]) (by rw [hnewcells]; exact hall)
        refine ⟨_, _, .slice (some ⟨m.blk, o', none⟩) (ns + n) c', _, _, rfl, ?_, ?_, hst2⟩
        · rw [run_app_room h0 h1 hd hte hlen hreal hnew]
          simp only [addr_add]
          rw [hst, hworld]
          rfl
        · exact ⟨_, c', o', Ren.add_same _ _ _, rfl, Nat.le_refl _, hreal, .inl ⟨by simp, ho'.2⟩⟩
      · -- moved
        have hl1' : (Builtin.firstCells te.size ns (.slice (some ⟨m.blk, o', none⟩) ns c')).run P w.drew = .ok olds'.toArray w.drew := by
          rw [firstCells_len]
          have := run_loadCells_list (P := P) w.drew ⟨m.blk, o', none⟩ olds' (fun j v hj => by
            rw [addr_add]
            have hjl := (List.getElem?_eq_some_iff.1 hj).1
            have h2 := hoff' (by omega)
            rw [h2]
            exact l4 j v hj)
          rw [l3] at this
          exact this
        obtain ⟨cap, rest, c1, c2, c3⟩ := run_app_grow (base := some ⟨m.blk, o', none⟩) (sLen := ns) (sCap := c') (olds := olds') (ty := ty) h0 h1 hd hte hz hlen hreal hb.1 hb.2 hl1' hnew'
        have st1 := stp_kill k hg (b := b)
        obtain ⟨ρ1, g1, g2⟩ := grown_rel st1.hr e hall hlall c1 (by rw [c2, hzl])
        exact ⟨_, _, _, _, ρ1, rfl, c3, g1, st1.trans (fun b m hb => k.dom1 hb) g2⟩

end
end Go.Ae
