/-
  The operations on the ideal heap are the machine's: binary operators.
-/
import Derived.Test.YtkilagbpemchpaaGreatAeSim2
set_option linter.unusedVariables false
set_option linter.unusedSimpArgs false
namespace Go.Ae
open Go Go.RowKit

section
variable {P : Program} {T : Tabs} {fr : Tr IV} {o : Oper} {h : IH} {ρ : Ren} {B : Nat} {a : Act} {w : World}

theorem eqGuard_free (op : BinOp) (t : TypeId) (x y : Operand) (u v : Value) (hu : u ≠ .nilIface) (hv : ∀ c, u ≠ .agg c) : (eqGuard op t x y u v).run P w = .ok () w := by
  cases u <;> first
    | exact absurd rfl hu
    | exact absurd rfl (hv _)
    | (cases op <;> (unfold eqGuard; simp))

theorem ibin_int (k k' : IntKind) (op : BinOp) (t : TypeId) (p q : Int) (v : IV) (hv : ibin op (.int k p) (.int k' q) = some v) : ∃ v', (binOp op t (.int k p) (.int k' q)).run P w = .ok v' w ∧ VR ρ v v' := by
  unfold ibin at hv
  simp only at hv
  split at hv
  · split at hv
    · cases hv
    · rename_i hq
      injection hv with hv; subst hv
      exact ⟨_, by simp [binOp, Op.shift, hq]; rfl, by simp [VR]⟩
  · split at hv
    · cases hv
    · rename_i hq
      injection hv with hv; subst hv
      exact ⟨_, by simp [binOp, Op.shift, hq]; rfl, by simp [VR]⟩
  · rename_i hne1 hne2
    split at hv
    · rename_i hk
      subst hk
      split at hv
      · injection hv with hv; subst hv; exact ⟨_, by simp [binOp, Op.intArith]; rfl, by simp [VR]⟩
      · injection hv with hv; subst hv; exact ⟨_, by simp [binOp, Op.intArith]; rfl, by simp [VR]⟩
      · injection hv with hv; subst hv; exact ⟨_, by simp [binOp, Op.intArith]; rfl, by simp [VR]⟩
      · split at hv
        · cases hv
        · rename_i hq
          injection hv with hv; subst hv; exact ⟨_, by simp [binOp, Op.intDiv, hq]; rfl, by simp [VR]⟩
      · split at hv
        · cases hv
        · rename_i hq
          injection hv with hv; subst hv; exact ⟨_, by simp [binOp, Op.intDiv, hq]; rfl, by simp [VR]⟩
      · injection hv with hv; subst hv; exact ⟨_, by simp only [binOp, Op.intBits, ne_eq, not_true_eq_false, if_false, Sem.run_pure, Sem.run_ite]; rfl, by simp [VR]⟩
      · injection hv with hv; subst hv; exact ⟨_, by simp only [binOp, Op.intBits, ne_eq, not_true_eq_false, if_false, Sem.run_pure, Sem.run_ite]; rfl, by simp [VR]⟩
      · injection hv with hv; subst hv; exact ⟨_, by simp only [binOp, Op.intBits, ne_eq, not_true_eq_false, if_false, Sem.run_pure, Sem.run_ite]; rfl, by simp [VR]⟩
      · injection hv with hv; subst hv; exact ⟨_, by simp [binOp, Op.intCmp]; rfl, by simp [VR]⟩
      · injection hv with hv; subst hv; exact ⟨_, by simp [binOp, Op.intCmp]; rfl, by simp [VR]⟩
      · injection hv with hv; subst hv; exact ⟨_, by simp [binOp, Op.intCmp]; rfl, by simp [VR]⟩
      · injection hv with hv; subst hv; exact ⟨_, by simp [binOp, Op.intCmp]; rfl, by simp [VR]⟩
      · injection hv with hv; subst hv; exact ⟨_, by simp [binOp, Op.intCmp]; rfl, by simp [VR]⟩
      · injection hv with hv; subst hv; exact ⟨_, by simp [binOp, Op.intCmp]; rfl, by simp [VR]⟩
      · cases hv
    · cases hv

theorem ibin_str (op : BinOp) (t : TypeId) (p q : List UInt8) (v : IV) (hv : ibin op (.str p) (.str q) = some v) : ∃ v', (binOp op t (.string ⟨p.toArray⟩) (.string ⟨q.toArray⟩)).run P w = .ok v' w ∧ VR ρ v v' := by
  unfold ibin at hv
  simp only at hv
  split at hv
  · split at hv
    · rename_i hq
      injection hv with hv; subst hv
      refine ⟨.string ⟨(p ++ q).toArray⟩, ?_, by simp [VR]⟩
      have hm : IntKind.i64.max = 9223372036854775807 := by decide
      have hs : ¬ (((ByteArray.mk p.toArray).size + (ByteArray.mk q.toArray).size : Nat) : Int) > IntKind.i64.max := by
        rw [hm]; show ¬ ((p.toArray.size + q.toArray.size : Nat) : Int) > _; simp; omega
      have ha : (ByteArray.mk p.toArray) ++ (ByteArray.mk q.toArray) = ByteArray.mk (p ++ q).toArray := by
        apply ByteArray.ext
        simp [ByteArray.data_append]
      simp only [binOp, Op.stringOp, if_neg hs, ha, Sem.run_pure]
    · cases hv
  all_goals (first | (injection hv with hv; subst hv; exact ⟨_, by simp [binOp, Op.stringOp]; rfl, by simp [VR]⟩) | cases hv)

theorem equal_succ (t : TypeId) (x y : Value) : Op.equal t x y = Op.equalIn (9999 + 1) t x y := rfl

theorem eq_bool (t : TypeId) (ht : P.underlying t = some .bool) (p q : Bool) : (Op.equal t (.bool p) (.bool q)).run P w = .ok (p == q) w := by
  rw [equal_succ]; generalize 9999 = d; unfold Op.equalIn; simp only [Sem.run_bind, run_underlying ht, Result.andThen_ok, Sem.run_pure]
theorem eq_nil1 (t e : TypeId) (ht : P.underlying t = some (.slice e)) (a b : Option Addr) (n c n' c' : Nat) (hab : a = none ∨ b = none) : (Op.equal t (.slice a n c) (.slice b n' c')).run P w = .ok (a.isNone && b.isNone) w := by
  rw [equal_succ]; generalize 9999 = d; unfold Op.equalIn
  cases a <;> cases b <;> first
    | (simp only [Sem.run_bind, run_underlying ht, Result.andThen_ok, Sem.run_pure]; rfl)
    | simp at hab
theorem run_eqOp (t : TypeId) (x y : Value) (r : Bool) (h : (Op.equal t x y).run P w = .ok r w) (hx : ∀ k n, x ≠ .int k n) (hf : ∀ k n, x ≠ .float k n) (hc : ∀ k n m, x ≠ .complex k n m) (hs : ∀ n, x ≠ .string n) :
    (binOp .eql t x y).run P w = .ok (.bool r) w ∧ (binOp .neq t x y).run P w = .ok (.bool !r) w := by
  cases x <;> first
    | exact absurd rfl (hx _ _)
    | exact absurd rfl (hf _ _)
    | exact absurd rfl (hc _ _ _)
    | exact absurd rfl (hs _)
    | (constructor <;> simp only [binOp, Sem.run_bind, h, Result.andThen_ok, Sem.run_pure])

theorem ibin_bool (op : BinOp) (t : TypeId) (ht : P.underlying t = some .bool) (p q : Bool) (v : IV) (hv : ibin op (.bool p) (.bool q) = some v) : ∃ v', (binOp op t (.bool p) (.bool q)).run P w = .ok v' w ∧ VR ρ v v' := by
  unfold ibin at hv
  simp only at hv
  split at hv
  · injection hv with hv; subst hv; exact ⟨_, (run_eqOp t _ _ _ (eq_bool t ht p q) (by simp) (by simp) (by simp) (by simp)).1, by simp [VR]⟩
  · injection hv with hv; subst hv; exact ⟨_, (run_eqOp t _ _ _ (eq_bool t ht p q) (by simp) (by simp) (by simp) (by simp)).2, by simp [VR]⟩
  · cases hv

theorem ibin_slice (op : BinOp) (t e : TypeId) (ht : P.underlying t = some (.slice e)) (x y v : IV) (hx : (∃ p n c s, x = .slice p n c s) ∨ x = .slice0) (hv : ibin op x y = some v) {x' y' : Value} (rx : VR ρ x x') (ry : VR ρ y y') : ∃ v', (binOp op t x' y').run P w = .ok v' w ∧ VR ρ v v' := by
  rcases hx with ⟨p, n, c, s, rfl⟩ | rfl
  · cases p with
    | none =>
      simp only [VR] at rx
      obtain ⟨rfl, rfl, rfl⟩ := rx
      cases y <;> simp only [ibin] at hv <;> (try cases hv)
      rename_i q n' c' s'
      cases q with
      | none =>
        simp only [VR] at ry
        obtain ⟨rfl, rfl, rfl⟩ := ry
        cases op <;> simp only at hv <;> (try cases hv) <;> first | exact ⟨_, (run_eqOp t _ _ _ (eq_nil1 t e ht _ _ _ _ _ _ (by first | exact .inl rfl | exact .inr rfl)) (by simp) (by simp) (by simp) (by simp)).1, by simp [VR]⟩ | exact ⟨_, (run_eqOp t _ _ _ (eq_nil1 t e ht _ _ _ _ _ _ (by first | exact .inl rfl | exact .inr rfl)) (by simp) (by simp) (by simp) (by simp)).2, by simp [VR]⟩
      | some q =>
        simp only [VR] at ry
        obtain ⟨m, c2, o2, _, rfl, _⟩ := ry
        cases op <;> simp only at hv <;> (try cases hv) <;> first | exact ⟨_, (run_eqOp t _ _ _ (eq_nil1 t e ht _ _ _ _ _ _ (by first | exact .inl rfl | exact .inr rfl)) (by simp) (by simp) (by simp) (by simp)).1, by simp [VR]⟩ | exact ⟨_, (run_eqOp t _ _ _ (eq_nil1 t e ht _ _ _ _ _ _ (by first | exact .inl rfl | exact .inr rfl)) (by simp) (by simp) (by simp) (by simp)).2, by simp [VR]⟩
    | some p =>
      simp only [VR] at rx
      obtain ⟨m, c2, o2, _, rfl, _⟩ := rx
      cases y <;> simp only [ibin] at hv <;> (try cases hv)
      rename_i q n' c' s'
      cases q <;> simp only at hv <;> (try cases hv)
      simp only [VR] at ry
      obtain ⟨rfl, rfl, rfl⟩ := ry
      cases op <;> simp only at hv <;> (try cases hv) <;> first | exact ⟨_, (run_eqOp t _ _ _ (eq_nil1 t e ht _ _ _ _ _ _ (by first | exact .inl rfl | exact .inr rfl)) (by simp) (by simp) (by simp) (by simp)).1, by simp [VR]⟩ | exact ⟨_, (run_eqOp t _ _ _ (eq_nil1 t e ht _ _ _ _ _ _ (by first | exact .inl rfl | exact .inr rfl)) (by simp) (by simp) (by simp) (by simp)).2, by simp [VR]⟩
  · simp only [VR] at rx
    obtain ⟨a', rfl⟩ := rx
    cases y <;> simp only [ibin] at hv <;> (try cases hv)
    rename_i q n' c' s'
    cases q <;> simp only at hv <;> (try cases hv)
    simp only [VR] at ry
    obtain ⟨rfl, rfl, rfl⟩ := ry
    cases op <;> simp only at hv <;> (try cases hv) <;> first | exact ⟨_, (run_eqOp t _ _ _ (eq_nil1 t e ht _ _ _ _ _ _ (by first | exact .inl rfl | exact .inr rfl)) (by simp) (by simp) (by simp) (by simp)).1, by simp [VR]⟩ | exact ⟨_, (run_eqOp t _ _ _ (eq_nil1 t e ht _ _ _ _ _ _ (by first | exact .inl rfl | exact .inr rfl)) (by simp) (by simp) (by simp) (by simp)).2, by simp [VR]⟩

theorem sim_binOp (hT : TabsOk P T) (hf : FR ρ fr a) (k : HR ρ B h w) {op : BinOp} {t t' : TypeId} {x y : Operand} (ho : o.op = .binOp op t x y t') {r : INext} (hr : iop T fr o h = some r) : SimRes P o a ρ B h w r := by
  unfold iop at hr
  rw [ho] at hr
  simp only at hr
  split at hr
  · rename_i xs ys hx hy
    have ex := ev_rel hf hx
    have ey := ev_rel hf hy
    simp only [VR] at ex ey
    obtain ⟨xs', ex, rx⟩ := ex
    obtain ⟨ys', ey, ry⟩ := ey
    split at hr <;> (try cases hr)
    rename_i n hn
    split at hr <;> (try cases hr)
    rename_i hlx
    split at hr <;> (try cases hr)
    rename_i hly
    split at hr <;> (try cases hr)
    rename_i b hb
    have heq := (hT.eq _ _ hn).eq xs ys hlx hly b hb ρ xs' ys' rx ry
    have hg := (hT.eq _ _ hn).guard
    have hgr : (eqGuard op t x y (.agg xs'.toArray) (.agg ys'.toArray)).run P w = .ok () w := by
      unfold eqGuard
      cases op <;> simp [hg]
    split at hr <;> (try cases hr)
    · exact sim_val k (v := .bool b) (by simp [execOp, ho, ex, ey, hgr, binOp, heq]) (by simp [VR])
    · exact sim_val k (v := .bool !b) (by simp [execOp, ho, ex, ey, hgr, binOp, heq]) (by simp [VR])
  · rename_i u v hnot hx hy
    have ex := ev_rel hf hx
    have ey := ev_rel hf hy
    split at hr <;> (try cases hr)
    rename_i ti hti
    obtain ⟨d, hd, hok⟩ := (hT.ty _ _ hti).und
    have fin : ∀ v', (binOp op t (a.eval x) (a.eval y)).run P w = .ok v' w → (a.eval x ≠ .nilIface) → (∀ c, a.eval x ≠ .agg c) → (execOp a.eval o).run P w = .ok (.value v') w := by
      intro v' h1 h2 h3
      simp [execOp, ho, eqGuard_free op t x y _ (a.eval y) h2 h3, h1]
    split at hr
    all_goals (try cases hr)
    all_goals simp only [Option.map_eq_some_iff] at hr
    all_goals obtain ⟨z, hz, rfl⟩ := hr
    · rename_i bb hdd
      rw [hdd] at hok
      simp only [TDok] at hok
      subst hok
      simp only [VR] at ex
      cases v <;> simp only [ibin] at hz <;> (try cases hz)
      rename_i b2
      simp only [VR] at ey
      obtain ⟨v', h1, h2⟩ := ibin_bool (w := w) (ρ := ρ) op t hd bb b2 z hz
      rw [ex, ey] at fin
      exact sim_val k (fin v' h1 (by simp) (by simp)) h2
    · rename_i kk k1 n1 hdd
      simp only [VR] at ex
      cases v <;> (try (simp only [ibin] at hz; cases hz))
      rename_i k2 n2
      simp only [VR] at ey
      obtain ⟨v', h1, h2⟩ := ibin_int (P := P) (w := w) (ρ := ρ) k1 k2 op t n1 n2 z hz
      rw [ex, ey] at fin
      exact sim_val k (fin v' h1 (by simp) (by simp)) h2
    · rename_i s1 hdd
      simp only [VR] at ex
      cases v <;> (try (simp only [ibin] at hz; cases hz))
      rename_i s2
      simp only [VR] at ey
      obtain ⟨v', h1, h2⟩ := ibin_str (P := P) (w := w) (ρ := ρ) op t s1 s2 z hz
      rw [ex, ey] at fin
      exact sim_val k (fin v' h1 (by simp) (by simp)) h2
    · rename_i e p n c s hdd
      rw [hdd] at hok
      simp only [TDok] at hok
      subst hok
      obtain ⟨v', h1, h2⟩ := ibin_slice (w := w) (ρ := ρ) op t e hd _ v z (.inl ⟨_, _, _, _, rfl⟩) hz ex ey
      refine sim_val k (fin v' h1 ?_ ?_) h2
      · cases p <;> simp only [VR] at ex
        · obtain ⟨_, _, e⟩ := ex; rw [e]; simp
        · obtain ⟨_, _, _, _, e, _⟩ := ex; rw [e]; simp
      · cases p <;> simp only [VR] at ex
        · obtain ⟨_, _, e⟩ := ex; rw [e]; simp
        · obtain ⟨_, _, _, _, e, _⟩ := ex; rw [e]; simp
    · rename_i e hdd
      rw [hdd] at hok
      simp only [TDok] at hok
      subst hok
      obtain ⟨v', h1, h2⟩ := ibin_slice (w := w) (ρ := ρ) op t e hd _ v z (.inr rfl) hz ex ey
      simp only [VR] at ex
      obtain ⟨a', ex⟩ := ex
      exact sim_val k (fin v' h1 (by rw [ex]; simp) (by rw [ex]; simp)) h2
  · cases hr

end
end Go.Ae
