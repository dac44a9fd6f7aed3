/-
  A shadow interpreter for the model's operations: the operations that touch no memory are met, all of them. (No program in it.)
-/
import Derived.Test.YtnhofgbjmofcnaaGreatRShE
namespace Go.Sh
open Go

variable [Sg : Sig]

/-- The operation comes to a value that the shadow's stands for; the world stays. -/
def Meets (P : Program) (ι : Inj) (ρ' : Operand → Value) (o : Oper) (v : Value) (w : World) : Prop :=
  ∃ v', (execOp ρ' o).run P w = .ok (.value v') w ∧ VR ι v v'

omit Sg in
theorem aint_run {P : Program} {op : BinOp} {k : IntKind} {a b : Int} {v : Value} (h : aint op k a b = some v) (hs : op ≠ .shl) (hs' : op ≠ .shr) (t : TypeId) (w : World) :
    (binOp op t (.int k a) (.int k b)).run P w = .ok v w ∧ plainV v = true := by
  cases op <;> simp only [aint] at h <;> first
    | (cases h; exact ⟨by simp [binOp, Op.intArith, Op.intBits, Op.intCmp], rfl⟩)
    | (split at h
       · cases h
       · rename_i hb
         cases h
         exact ⟨by simp [binOp, Op.intDiv, hb], rfl⟩)
    | (exact absurd rfl hs)
    | (exact absurd rfl hs')
    | cases h

omit Sg in
theorem ashift_run {P : Program} {op : BinOp} {k k' : IntKind} {a b : Int} {v : Value} (h : ashift op k a b = some v) (t : TypeId) (w : World) :
    (binOp op t (.int k a) (.int k' b)).run P w = .ok v w ∧ plainV v = true := by
  unfold ashift at h
  split at h
  · cases h
  · rename_i hb
    cases op <;> simp only at h <;> first | (cases h; done) | skip
    all_goals
      cases h
      exact ⟨by simp [binOp, Op.shift, hb], rfl⟩

omit Sg in
theorem toList_eq (b : ByteArray) : b.toList = b.data.toList := ByteArray.toList_eq b

omit Sg in
theorem astr_run {P : Program} {op : BinOp} {a b : ByteArray} {v : Value} (h : astr op a b = some v) (t : TypeId) (w : World) :
    (binOp op t (.string a) (.string b)).run P w = .ok v w ∧ plainV v = true := by
  cases op <;> simp only [astr] at h <;> first
    | (cases h; exact ⟨by simp [binOp, Op.stringOp, toList_eq], rfl⟩)
    | (split at h
       · cases h
       · rename_i hb
         cases h
         exact ⟨by simp only [binOp, Op.stringOp]; rw [if_neg hb]; rfl, rfl⟩)
    | cases h

omit Sg in
theorem guard_run {P : Program} {op : BinOp} {t : TypeId} {x y : Operand} {a b : Value} (w : World)
    (h : ¬ (a = .nilIface ∧ b = .nilIface)) (ha : ∀ xs ys, a = .agg xs → b = .agg ys → P.eqGuardType P.depth t = false) : (eqGuard op t x y a b).run P w = .ok () w := by
  unfold eqGuard
  cases op <;> first | rfl | skip
  all_goals
    cases a <;> cases b <;> first | rfl | (exact absurd ⟨rfl, rfl⟩ h) | (have hg := ha _ _ rfl rfl; simp [hg])

omit Sg in
theorem bool_eq_run {P : Program} {t : TypeId} (a b : Bool) (w : World) (h : P.underlying t = some .bool) :
    (binOp .eql t (.bool a) (.bool b)).run P w = .ok (.bool (a == b)) w ∧ (binOp .neq t (.bool a) (.bool b)).run P w = .ok (.bool (!(a == b))) w := by
  have e : ∀ d, (Op.equalIn (d + 1) t (.bool a) (.bool b)).run P w = .ok (a == b) w := fun d => run_equalIn_bool w d t a b h
  have e' : (Op.equal t (.bool a) (.bool b)).run P w = .ok (a == b) w := e 9999
  constructor
  · show ((Op.equal t (.bool a) (.bool b) >>= fun r => pure (Value.bool r) : Sem Value)).run P w = _
    rw [Sem.run_bind, e']; rfl
  · show ((Op.equal t (.bool a) (.bool b) >>= fun r => pure (Value.bool (!r)) : Sem Value)).run P w = _
    rw [Sem.run_bind, e']; rfl

omit Sg in
theorem max2_run {P : Program} (w : World) : ∀ {vs : List Value} {v r : Value}, max2 true v vs = some r → plainV v = true → (vs.foldlM Builtin.max2 v).run P w = .ok r w ∧ plainV r = true := by
  intro vs
  induction vs with
  | nil => intro v r h hp; simp [max2] at h; subst h; exact ⟨by simp, hp⟩
  | cons u vs ih =>
    intro v r h hp
    cases v <;> cases u <;> simp only [max2] at h <;> first | (cases h; done) | skip
    obtain ⟨h1, h2⟩ := ih h rfl
    refine ⟨?_, h2⟩
    simp only [List.foldlM_cons, Builtin.max2, Sem.run_bind, Sem.run_pure, Result.andThen_ok]
    exact h1

omit Sg in
theorem min2_run {P : Program} (w : World) : ∀ {vs : List Value} {v r : Value}, max2 false v vs = some r → plainV v = true → (vs.foldlM Builtin.min2 v).run P w = .ok r w ∧ plainV r = true := by
  intro vs
  induction vs with
  | nil => intro v r h hp; simp [max2] at h; subst h; exact ⟨by simp, hp⟩
  | cons u vs ih =>
    intro v r h hp
    cases v <;> cases u <;> simp only [max2] at h <;> first | (cases h; done) | skip
    obtain ⟨h1, h2⟩ := ih h rfl
    refine ⟨?_, h2⟩
    simp only [List.foldlM_cons, Builtin.min2, Sem.run_bind, Sem.run_pure, Result.andThen_ok]
    exact h1

theorem VR.plain_eq {ι : Inj} {v v' : Value} (h : VR ι v v') : (∀ k n, v = .int k n → v' = .int k n) ∧ (∀ b, v = .bool b → v' = .bool b) ∧ (∀ s, v = .string s → v' = .string s) := by
  cases h <;> simp

section
variable {E : Env} {P : Program} {ι : Inj} {ρ : Operand → Option Value} {ρ' : Operand → Value}

theorem int_of {x : Operand} {k : IntKind} {n : Int} (hρ : Env' ι ρ ρ') (h : ρ x = some (.int k n)) : ρ' x = .int k n := (hρ _ _ h).plain_eq.1 _ _ rfl
theorem bool_of {x : Operand} {b : Bool} (hρ : Env' ι ρ ρ') (h : ρ x = some (.bool b)) : ρ' x = .bool b := (hρ _ _ h).plain_eq.2.1 _ rfl
theorem str_of {x : Operand} {b : ByteArray} (hρ : Env' ι ρ ρ') (h : ρ x = some (.string b)) : ρ' x = .string b := (hρ _ _ h).plain_eq.2.2 _ rfl

theorem meets_binOp (hE : E.Ok P) (hρ : Env' ι ρ ρ') {o : Oper} {op : BinOp} {t : TypeId} {x y : Operand} {yt : TypeId} {v : Value} (ho : o.op = .binOp op t x y yt) (h : apure E ρ o = some v) (w : World) :
    Meets P ι ρ' o v w := by
  unfold apure at h
  simp only [ho] at h
  have fin : ∀ a b, ρ' x = a → ρ' y = b → ¬ (a = .nilIface ∧ b = .nilIface) → (∀ xs ys, a = .agg xs → b = .agg ys → P.eqGuardType P.depth t = false) → (binOp op t a b).run P w = .ok v w → plainV v = true → Meets P ι ρ' o v w := by
    intro a b hx hy h1 h2 h3 h4
    refine ⟨v, ?_, plainV_VR h4⟩
    unfold execOp
    simp only [ho, hx, hy]
    simp [guard_run w h1 h2, h3]
  cases hx : ρ x with
  | none => rw [hx] at h; cases h
  | some a => cases hy : ρ y with
    | none => rw [hx, hy] at h; cases a <;> cases h
    | some b =>
      rw [hx, hy] at h
      cases a <;> cases b <;> first | (cases h; done) | skip
      case int.int k a k' b =>
        have e1 := int_of hρ hx
        have e2 := int_of hρ hy
        by_cases hl : op = .shl
        · subst hl
          obtain ⟨g1, g2⟩ := ashift_run (P := P) h t w (k' := k')
          exact fin _ _ e1 e2 (by simp) (by intros; simp_all) g1 g2
        by_cases hr : op = .shr
        · subst hr
          obtain ⟨g1, g2⟩ := ashift_run (P := P) h t w (k' := k')
          exact fin _ _ e1 e2 (by simp) (by intros; simp_all) g1 g2
        have h' : (if k = k' then aint op k a b else none) = some v := by cases op <;> first | exact h | exact absurd rfl hl | exact absurd rfl hr
        split at h'
        · rename_i hk
          subst hk
          obtain ⟨g1, g2⟩ := aint_run (P := P) h' hl hr t w
          exact fin _ _ e1 e2 (by simp) (by intros; simp_all) g1 g2
        · cases h'
      case string.string a b =>
        obtain ⟨g1, g2⟩ := astr_run (P := P) h t w
        exact fin _ _ (str_of hρ hx) (str_of hρ hy) (by simp) (by intros; simp_all) g1 g2
      case bool.bool a b =>
        cases ht : E.ty.get t with
        | none => simp only [ht] at h; cases h
        | some ti =>
          simp only [ht] at h
          have hu := (hE.ty t ti ht).und
          cases hd : ti.und <;> simp only [hd] at h <;> first | (cases h; done) | skip
          rw [hd] at hu
          cases op <;> simp only at h <;> first | (cases h; done) | skip
          · cases h
            exact fin _ _ (bool_of hρ hx) (bool_of hρ hy) (by simp) (by intros; simp_all) (bool_eq_run a b w hu).1 rfl
          · cases h
            exact fin _ _ (bool_of hρ hx) (bool_of hρ hy) (by simp) (by intros; simp_all) (bool_eq_run a b w hu).2 rfl
      all_goals
        simp only [isSym, Bool.true_or, Bool.or_true, cond_true] at h
        obtain ⟨g1, g2, r', g3, g4⟩ := hE.orc _ _ _ _ h ι (ρ' x) (ρ' y) t w (hρ _ _ hx) (hρ _ _ hy)
        refine ⟨r', ?_, g4⟩
        unfold execOp
        simp only [ho]
        rw [Sem.run_bind, Sem.run_bind, guard_run w g1 (fun xs ys e _ => absurd e (g2 xs))]
        simp [g3]

end
end Go.Sh
