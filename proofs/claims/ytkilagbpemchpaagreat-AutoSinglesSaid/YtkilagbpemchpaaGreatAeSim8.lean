/-
  The operations on the ideal heap are the machine's: calls of builtins and of functions.
-/
import Derived.Test.YtkilagbpemchpaaGreatAeSim7
set_option linter.unusedVariables false
set_option linter.unusedSimpArgs false
namespace Go.Ae
open Go Go.RowKit

section
variable {P : Program} {T : Tabs} {fr : Tr IV} {o : Oper} {h : IH} {ρ : Ren} {B : Nat} {a : Act} {w : World}

theorem tyAt_some {c : Call} {i : Nat} {ti : TI} (h : tyAt T c i = some ti) : ∃ t, c.argTypes[i]? = some t ∧ T.ty t = some ti := by
  unfold tyAt at h
  split at h <;> (try cases h)
  rename_i t ht
  exact ⟨t, ht, h⟩

theorem arr2 {α : Type} {x : Array α} {u v : α} (h0 : x[0]? = some u) : ∀ w, x[1]? = some w → x[0]? = some u := fun _ _ => h0

/-- append asks no more of the types than their first two. -/
theorem append_types (ats : Array TypeId) (t0 t1 ty : TypeId) (args : Array Value) (h0 : ats[0]? = some t0) (h1 : ats[1]? = some t1) : Builtin.append_ ats ty args = Builtin.append_ #[t0, t1] ty args := by
  unfold Builtin.append_
  rw [h0, h1]
  rfl

theorem run_builtin {b : Builtin} {c : Call} {s : Sem Value} {args : List Value} (hb : ∀ cs, builtin b c.argTypes o.type cs args.toArray = (do pure (Next.value (← s)))) (ho : o.op = .call c) (hc : c.callee = .builtin b) (ha : c.args.toList.map a.eval = args) {v : Value} {w1 : World} (hs : s.run P w = .ok v w1) :
    (execOp a.eval o).run P w = .ok (.value v) w1 := by
  have hargs : c.args.map a.eval = args.toArray := by apply Array.ext'; rw [Array.toList_map]; simpa using ha
  simp only [execOp, ho, resolve, hc, Sem.run_bind, Sem.run_pure, Result.andThen_ok, invoke, hargs, hb, hs]

theorem sim_call (hT : TabsOk P T) (hf : FR ρ fr a) (k : HR ρ B h w) {c : Call} (ho : o.op = .call c) {r : INext} (hr : iop T fr o h = some r) : SimRes P o a ρ B h w r := by
  unfold iop at hr
  rw [ho] at hr
  simp only at hr
  unfold callI at hr
  split at hr <;> (try cases hr)
  rename_i xs hxs
  have hx := mapO_ev hf hxs
  split at hr <;> (try cases hr)
  · -- a function value
    rename_i f hcal
    split at hr <;> (try cases hr)
    rename_i g cap hg
    have e := ev_rel hf hg
    simp only [VR] at e
    obtain ⟨cap', e, hcap⟩ := e
    refine ⟨rfl, fun fn h1 h2 h3 => ⟨c.args.toList.map a.eval ++ cap', ?_, hx.append hcap⟩⟩
    have hargs : c.args.map a.eval = (c.args.toList.map a.eval).toArray := by apply Array.ext'; simp
    have h2' : ¬ fn.body = none := by intro q; simp [q] at h2
    have h3' : ¬ fn.name = "runtime.NumGoroutine" := by simpa using h3
    simp [execOp, ho, resolve, hcal, e, Deferred.ofValue, invoke, callFunc, h1, h2', h3', hargs]
  · rename_i b hcal
    split at hr <;> (try cases hr)
    · -- len
      rename_i x
      simp only [VRs] at hx
      obtain ⟨y, ys, hy, hxy, rfl⟩ := hx
      split at hr <;> (try cases hr)
      rename_i ti hti
      obtain ⟨t, ht0, ht⟩ := tyAt_some hti
      obtain ⟨d, hd, hok⟩ := (hT.ty _ _ ht).und
      simp only [Option.map_eq_some_iff] at hr
      obtain ⟨n, hn, rfl⟩ := hr
      have key : (Builtin.len_ c.argTypes o.type #[y]).run P w = .ok (goInt n) w := by
        unfold lenI at hn
        simp only [Builtin.len_, ht0, List.getElem?_toArray, List.getElem?_cons_zero, Sem.run_bind, run_underlying hd, Result.andThen_ok]
        split at hn <;> (try cases hn)
        · rename_i s hde
          rw [hde] at hok; simp only [TDok] at hok; subst hok
          simp only [VR] at hxy; subst hxy
          have : (ByteArray.mk s.toArray).size = s.length := by show s.toArray.size = _; simp
          simp [this]
        · rename_i m e q hde
          rw [hde] at hok; simp only [TDok] at hok; subst hok
          simp
        · rename_i e p m c' sz hde
          rw [hde] at hok; simp only [TDok] at hok; subst hok
          cases p <;> simp only [VR] at hxy
          · obtain ⟨rfl, rfl, rfl⟩ := hxy; simp
          · obtain ⟨_, _, _, _, rfl, _⟩ := hxy; simp
        · rename_i e hde
          rw [hde] at hok; simp only [TDok] at hok; subst hok
          simp only [VR] at hxy; obtain ⟨_, rfl⟩ := hxy; simp
        · rename_i kt et hde
          rw [hde] at hok; simp only [TDok] at hok; subst hok
          simp only [VR] at hxy; subst hxy; simp
        · rename_i kt et p hde
          rw [hde] at hok; simp only [TDok] at hok; subst hok
          split at hn <;> (try cases hn)
          rename_i ver es clock hg
          simp only [VR] at hxy
          obtain ⟨m, hm, rfl⟩ := hxy
          have hor := k.obj p m hm
          rw [hg] at hor
          obtain ⟨es', q1, q2, _⟩ := hor
          have hel : es'.length = es.length := by
            have : ∀ (es : List (IV × IV × Nat)) (l : List MapEntry), ERs ρ es l → l.length = es.length := by
              intro es
              induction es with
              | nil => intro l hl; simp only [ERs] at hl; subst hl; rfl
              | cons x xs ih => intro l hl; simp only [ERs] at hl; obtain ⟨y, ys, rfl, _, _, _, h4⟩ := hl; simp [ih _ h4]
            exact this _ _ q2
          simp [getObj, Sem.run, q1, hel]
      exact sim_val k (run_builtin (args := [y]) (s := Builtin.len_ c.argTypes o.type #[y]) (fun _ => rfl) ho hcal hy key) (by simp only [VR]; rfl)
    · -- cap of nil
      rename_i n c' s
      simp only [VRs, VR] at hx
      obtain ⟨y, ys, hy, ⟨rfl, rfl, rfl⟩, rfl⟩ := hx
      split at hr <;> (try cases hr)
      rename_i ti hti
      obtain ⟨t, ht0, ht⟩ := tyAt_some hti
      obtain ⟨d, hd, hok⟩ := (hT.ty _ _ ht).und
      split at hr <;> (try cases hr)
      rename_i e hde
      rw [hde] at hok; simp only [TDok] at hok; subst hok
      refine sim_val k (run_builtin (args := [.slice none 0 0]) (s := Builtin.cap_ c.argTypes o.type #[.slice none 0 0]) (fun _ => rfl) ho hcal hy (v := .int .i64 0) ?_) (by simp [VR])
      simp [Builtin.cap_, ht0, run_underlying hd]
      rfl
    · -- append
      rename_i s x
      simp only [VRs] at hx
      obtain ⟨s', ys, hy, hs, x', zs, rfl, hxx, rfl⟩ := hx
      split at hr <;> (try cases hr)
      rename_i ti ti1 hti hti1
      obtain ⟨t0, ht00, ht0⟩ := tyAt_some hti
      obtain ⟨t1, ht10, ht1⟩ := tyAt_some hti1
      obtain ⟨d0, hd0, hok0⟩ := (hT.ty _ _ ht0).und
      obtain ⟨d1, hd1, hok1⟩ := (hT.ty _ _ ht1).und
      split at hr <;> (try cases hr)
      · rename_i e e1 hde hde1
        rw [hde] at hok0; simp only [TDok] at hok0; subst hok0
        rw [hde1] at hok1; simp only [TDok] at hok1; subst hok1
        split at hr <;> (try cases hr)
        rename_i te hte
        have fin : ∀ {v : IV} {h1 : IH} {v' : Value} {w1 : World} {ρ1 : Ren}, r = .val v h1 → (Builtin.append_ #[t0, t1] o.type #[s', x']).run P w = .ok v' w1 → VR ρ1 v v' → Stp ρ ρ1 B h h1 w w1 → SimRes P o a ρ B h w r := by
          intro v h1 v' w1 ρ1 e1 e2 e3 e4
          subst e1
          refine ⟨v', w1, ρ1, run_builtin (args := [s', x']) (s := Builtin.append_ c.argTypes o.type #[s', x']) (fun _ => rfl) ho hcal hy ?_, e3, e4⟩
          rw [append_types c.argTypes t0 t1 _ _ ht00 ht10]
          exact e2
        have hnz : ∃ z, te.zero = some z := by
          cases hz : te.zero with
          | some z => exact ⟨z, rfl⟩
          | none => rw [hz] at hr; cases hr
        obtain ⟨z, hz⟩ := hnz
        rw [hz] at hr
        simp only at hr
        have hzl := hT.zs _ _ _ hte hz
        have hd1' : ∀ q, TypeDesc.slice e1 ≠ .int q := fun q => by simp
        split at hr <;> (try cases hr)
        · rename_i n c' s'
          simp only [VR] at hxx
          obtain ⟨rfl, rfl, rfl⟩ := hxx
          obtain ⟨v, h1, v', w1, ρ1, e1, e2, e3, e4⟩ := app_rel k (t0 := t0) (t1 := t1) (ty := o.type) (x := .slice none 0 0) (news' := []) hd0 hd1 hd1' (hT.ty _ _ hte) hz hzl hs (by simp) (by simp [VRs]) (by simp [Builtin.lenOf]) (by simp [Builtin.firstCells]) (by simp [Builtin.firstCells]) hr
          exact fin e1 e2 e3 e4
        · simp only [VR] at hxx
          obtain ⟨a', rfl⟩ := hxx
          obtain ⟨v, h1, v', w1, ρ1, e1, e2, e3, e4⟩ := app_rel k (t0 := t0) (t1 := t1) (ty := o.type) (x := .slice (some a') 0 0) (news' := []) hd0 hd1 hd1' (hT.ty _ _ hte) hz hzl hs (by simp) (by simp [VRs]) (by simp [Builtin.lenOf]) (by simp [Builtin.firstCells, loadCells, loadCellsFrom]) (by simp [Builtin.firstCells, loadCells, loadCellsFrom]) hr
          exact fin e1 e2 e3 e4
        · rename_i b off n c' sz
          split at hr <;> (try cases hr)
          rename_i news hnews
          simp only [VR] at hxx
          obtain ⟨m, c2, o2, hm, rfl, hnc, hcc, hoff⟩ := hxx
          obtain ⟨l', l1, l2, l3, l4⟩ := load_rel (P := P) k hm hnews
          have hnl : news.length = n * te.size := by
            unfold getCells at hnews
            split at hnews <;> (try cases hnews)
            split at hnews <;> (try cases hnews)
            rename_i q
            exact q
          have hoff' : n * te.size ≠ 0 → o2 = m.sh + off := by
            intro q
            rcases hoff with q' | q'
            · exact q'.1
            · have : n = 0 := by omega
              subst this; simp at q
          have hld : ∀ W : World, W.heap = w.heap → (Builtin.firstCells te.size n (.slice (some ⟨m.blk, o2, none⟩) n c2)).run P W = .ok l'.toArray W := by
            intro W hW
            rw [firstCells_len]
            have := run_loadCells_list (P := P) W ⟨m.blk, o2, none⟩ l' (fun j v hj => by
              rw [addr_add]
              have hjl := (List.getElem?_eq_some_iff.1 hj).1
              have h2 := hoff' (by omega)
              rw [h2]
              have := l4 j v hj
              simp only [World.cell?, hW] at this ⊢
              exact this)
            rw [l3] at this
            exact this
          obtain ⟨v, h1, v', w1, ρ1, e1, e2, e3, e4⟩ := app_rel k (t0 := t0) (t1 := t1) (ty := o.type) (x := .slice (some ⟨m.blk, o2, none⟩) n c2) (news' := l') hd0 hd1 hd1' (hT.ty _ _ hte) hz hzl hs hnl l2 (by simp [Builtin.lenOf]) (hld w rfl) (hld w.drew rfl) hr
          exact fin e1 e2 e3 e4
    · -- clear
      rename_i x
      simp only [VRs] at hx
      obtain ⟨y, ys, hy, hxy, rfl⟩ := hx
      split at hr <;> (try cases hr)
      rename_i ti hti
      obtain ⟨t, ht0, ht⟩ := tyAt_some hti
      obtain ⟨d, hd, hok⟩ := (hT.ty _ _ ht).und
      split at hr <;> (try cases hr)
      rename_i e hde
      rw [hde] at hok; simp only [TDok] at hok; subst hok
      split at hr <;> (try cases hr)
      rename_i te hte
      have fin0 : (Builtin.clear_ c.argTypes o.type #[y]).run P w = .ok (.tuple #[]) w → SimRes P o a ρ B h w (.val (.tuple []) h) := fun q =>
        sim_val k (run_builtin (args := [y]) (s := Builtin.clear_ c.argTypes o.type #[y]) (fun _ => rfl) ho hcal hy q) ⟨[], rfl, by simp [VRs]⟩
      split at hr <;> (try cases hr)
      · simp only [VR] at hxy
        obtain ⟨rfl, rfl, rfl⟩ := hxy
        refine fin0 ?_
        simp [Builtin.clear_, ht0, run_underlying hd]
      · simp only [VR] at hxy
        obtain ⟨a', rfl⟩ := hxy
        refine fin0 ?_
        simp [Builtin.clear_, ht0, run_underlying hd]
      · rename_i z b off n c' sz hz
        simp only [VR] at hxy
        obtain ⟨m, c2, o2, hm, rfl, hnc, hcc, hoff⟩ := hxy
        split at hr
        · rename_i hn
          subst hn
          injection hr with hr; subst hr
          refine fin0 ?_
          simp [Builtin.clear_, ht0, run_underlying hd]
        · rename_i hn
          simp only [Option.map_eq_some_iff] at hr
          obtain ⟨h1, hset, rfl⟩ := hr
          obtain ⟨v, hv, hrel⟩ := run_zero (hT.ty _ _ hte) hz
          obtain ⟨lz, z1, z2, z3⟩ := replicate_cells (ρ := ρ) hrel n
          have ho2 : o2 = m.sh + off := by
            rcases hoff with q' | q'
            · exact q'.1
            · omega
          obtain ⟨w1, s1, s2⟩ := store_rel (P := P) k hm z2 hset
          refine ⟨.tuple #[], w1, ρ, run_builtin (args := [.slice (some ⟨m.blk, o2, none⟩) n c2]) (s := Builtin.clear_ c.argTypes o.type #[.slice (some ⟨m.blk, o2, none⟩) n c2]) (fun _ => rfl) ho hcal hy ?_, ⟨[], rfl, by simp [VRs]⟩, s2⟩
          have hz1 : (Builtin.zeroCells v.cells n).toList = lz := by
            have : Builtin.zeroCells v.cells n = lz.toArray := by rw [← z1]; rfl
            rw [this]
          rw [← ho2, ← hz1] at s1
          cases n with
          | zero => exact absurd rfl hn
          | succ n => simp [Builtin.clear_, ht0, run_underlying hd, hv, s1]
    · -- min
      rename_i k1 p k2 q
      simp only [VRs, VR] at hx
      obtain ⟨y, ys, hy, rfl, z, zs, rfl, rfl, rfl⟩ := hx
      refine sim_val k (run_builtin (args := [.int k1 p, .int k2 q]) (s := Builtin.min_ c.argTypes o.type #[.int k1 p, .int k2 q]) (fun _ => rfl) ho hcal hy (v := .int k1 (if q < p then q else p)) ?_) (by simp [VR])
      simp [Builtin.min_, Builtin.min2]
    · rename_i k1 p k2 q
      simp only [VRs, VR] at hx
      obtain ⟨y, ys, hy, rfl, z, zs, rfl, rfl, rfl⟩ := hx
      refine sim_val k (run_builtin (args := [.int k1 p, .int k2 q]) (s := Builtin.max_ c.argTypes o.type #[.int k1 p, .int k2 q]) (fun _ => rfl) ho hcal hy (v := .int k1 (if p < q then q else p)) ?_) (by simp [VR])
      simp [Builtin.max_, Builtin.max2]

end
end Go.Ae
