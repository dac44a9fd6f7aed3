/-
  A shadow interpreter for the model's operations: acts, and one operation. (No program in it.)
-/
import Derived.Test.YtnhofgbjmofcnaaGreatRShP
namespace Go.Sh
open Go

variable [Sg : Sig]

/-! ### what an operation looks at -/
section
variable {E : Env} {ρ σ : Operand → Option Value}

omit Sg in
theorem evalL_congr {l : List Operand} (h : ∀ x ∈ l, ρ x = σ x) : evalL ρ l = evalL σ l := by
  induction l with
  | nil => rfl
  | cons x xs ih =>
    simp only [evalL]
    rw [h x (by simp), ih fun y hy => h y (by simp [hy])]

omit Sg in
theorem evalP_congr {l : List (Nat × Operand)} (h : ∀ p ∈ l, ρ p.2 = σ p.2) : evalP ρ l = evalP σ l := by
  induction l with
  | nil => rfl
  | cons x xs ih =>
    obtain ⟨i, x⟩ := x
    simp only [evalP]
    have := h (i, x) (by simp)
    simp only at this
    rw [this, ih fun y hy => h y (by simp [hy])]

omit Sg in
theorem oev_congr {o : Option Operand} (h : ∀ x, o = some x → ρ x = σ x) : oev ρ o = oev σ o := by
  cases o with
  | none => rfl
  | some x => simp only [oev]; rw [h x rfl]

omit Sg in
theorem call_args {c : Call} (h : ∀ x ∈ c.operands, ρ x = σ x) : evalL ρ c.args.toList = evalL σ c.args.toList :=
  evalL_congr fun x hx => h x (by simp [Call.operands]; exact .inr (by simpa using hx))

omit Sg in
theorem apure_congr {o : Oper} (h : ∀ x ∈ o.op.operands, ρ x = σ x) : apure E ρ o = apure E σ o := by
  obtain ⟨dst, op, type, pos, after, guard⟩ := o
  cases op <;> simp only [Op.operands] at h <;> simp only [apure]
  case build t ps => rw [evalP_congr (ρ := ρ) (σ := σ) fun p hp => h p.2 (by simp; exact ⟨p.1, by simpa using hp⟩)]
  case makeFunc fn first captured =>
    rw [evalL_congr (ρ := ρ) (σ := σ) (l := first.toList) fun x hx => h x (by simp; exact .inl (by simpa using hx)),
      evalL_congr (ρ := ρ) (σ := σ) (l := captured.toList) fun x hx => h x (by simp; exact .inr (by simpa using hx))]
  case call c => rw [call_args h]
  all_goals (first | rfl | (simp_all; done))

omit Sg in
theorem aread_congr {o : Oper} {s : St} (h : ∀ x ∈ o.op.operands, ρ x = σ x) : aread E ρ o s = aread E σ o s := by
  obtain ⟨dst, op, type, pos, after, guard⟩ := o
  cases op <;> simp only [Op.operands] at h <;> simp only [aread]
  case slice t x lo hi mx =>
    have h0 : ρ x = σ x := h x (by simp)
    have h1 : oev ρ lo = oev σ lo := oev_congr fun y hy => h y (by simp [hy])
    have h2 : oev ρ hi = oev σ hi := oev_congr fun y hy => h y (by simp [hy])
    have h3 : oev ρ mx = oev σ mx := oev_congr fun y hy => h y (by simp [hy])
    rw [h0, h1, h2, h3]
  case call c => rw [call_args h]
  case binOp op t x y yt =>
    have h0 : ρ x = σ x := h x (by simp)
    have h1 : ρ y = σ y := h y (by simp)
    cases op <;> simp only [aread] <;> rw [h0, h1]
  all_goals (first | rfl | (simp_all; done))

omit Sg in
theorem aalloc_congr {o : Oper} (h : ∀ x ∈ o.op.operands, ρ x = σ x) : aalloc E ρ o = aalloc E σ o := by
  obtain ⟨dst, op, type, pos, after, guard⟩ := o
  cases op <;> simp only [Op.operands] at h <;> simp only [aalloc]
  case buildSlice t n ps => rw [evalP_congr (ρ := ρ) (σ := σ) fun p hp => h p.2 (by simp; exact ⟨p.1, by simpa using hp⟩)]
  case makeMap t r => rw [oev_congr (ρ := ρ) (σ := σ) fun y hy => h y (by simp [hy])]
  all_goals (first | rfl | (simp_all; done))

omit Sg in
theorem achain_congr {o : Oper} {s : St} (h : ∀ x ∈ o.op.operands, ρ x = σ x) : achain E ρ o s = achain E σ o s := by
  obtain ⟨dst, op, type, pos, after, guard⟩ := o
  cases op <;> simp only [Op.operands] at h <;> simp only [achain]
  case call c => rw [call_args h]
  case next x b => cases b <;> simp only [achain]; rw [h x (by simp)]
  all_goals (first | rfl | (simp_all; done))

omit Sg in
theorem callee_congr {c : Call} (h : ∀ x ∈ c.operands, ρ x = σ x) : callee ρ c = callee σ c := by
  unfold callee
  cases hc : c.callee with
  | value f =>
    have hf : ρ f = σ f := h f (by simp [Call.operands, hc])
    simp only [hf, call_args h]
  | _ => rfl

end

/-! ### acts -/
inductive DR (ι : Inj) : List Deferred → List Deferred → Prop
  | nil : DR ι [] []
  | cons (fn : Fn) (cap cap' as as' : List Value) (ds es : List Deferred) (h1 : LR ι cap cap') (h2 : LR ι as as') (hs : DR ι ds es) :
      DR ι ({ target := .fn fn ⟨cap⟩, args := ⟨as⟩ } :: ds) ({ target := .fn fn ⟨cap'⟩, args := ⟨as'⟩ } :: es)

theorem DR.mono {ι ι' : Inj} (hx : Ext ι ι') {ds es : List Deferred} (h : DR ι ds es) : DR ι' ds es := by
  induction h with
  | nil => exact .nil
  | cons fn cap cap' as as' ds es h1 h2 _ ih => exact .cons fn cap cap' as as' ds es (h1.mono hx) (h2.mono hx) ih

structure AR (ι : Inj) (a : AA) (ac : Act) : Prop where
  size : ac.tmps.size = a.n
  tm : ∀ t, VR ι (a.look t) (ac.tmps.getD t undef)
  df : DR ι a.df ac.defers

theorem AR.mono {ι ι' : Inj} (hx : Ext ι ι') {a : AA} {ac : Act} (h : AR ι a ac) : AR ι' a ac :=
  ⟨h.size, fun t => (h.tm t).mono hx, h.df.mono hx⟩

theorem AR.eval {ι : Inj} {a : AA} {ac : Act} (h : AR ι a ac) : Env' ι a.eval ac.eval := by
  intro x v hx
  cases x with
  | tmp t => simp only [AA.eval] at hx; cases hx; exact h.tm t
  | const u =>
    simp only [AA.eval] at hx
    cases hp : plainV u with
    | false => rw [hp] at hx; cases hx
    | true => rw [hp] at hx; cases hx; exact plainV_VR hp
  | global g => simp only [AA.eval] at hx; cases hx
  | func f => simp only [AA.eval] at hx; cases hx; exact .func _ [] [] [] [] .nil .nil

omit Sg in
theorem AA.look_put {a a' : AA} {dst : Option Tmp} {v : Value} (h : a.put dst v = some a') : a'.n = a.n ∧ a'.df = a.df ∧ (∀ d, dst = some d → d < a.n) ∧ ∀ t, a'.look t = if dst = some t then v else a.look t := by
  unfold AA.put at h
  cases dst with
  | none => simp only at h; cases h; simp
  | some d =>
    simp only at h
    cases hb : Nat.blt d a.n with
    | false => rw [hb] at h; cases h
    | true =>
      rw [hb] at h; simp only [cond_true] at h; cases h
      refine ⟨rfl, rfl, fun d' hd => by cases hd; exact blt_lt hb, fun t => ?_⟩
      simp only [AA.look, Tr.get_set]
      by_cases e : t = d
      · subst e; simp
      · rw [if_neg e, if_neg (by simpa using fun h => e h.symm)]

theorem AR.put {ι : Inj} {a a' : AA} {ac : Act} (h : AR ι a ac) {dst : Option Tmp} {v v' : Value} (hp : a.put dst v = some a') (hv : VR ι v v') : AR ι a' (ac.put dst v') := by
  obtain ⟨h1, h2, h3, h4⟩ := AA.look_put hp
  refine ⟨?_, fun t => ?_, ?_⟩
  · rw [h1, ← h.size]; cases dst <;> simp [Act.put]
  · rw [h4]
    cases dst with
    | none => simpa [Act.put] using h.tm t
    | some d =>
      have hd : d < ac.tmps.size := by rw [h.size]; exact h3 d rfl
      by_cases e : d = t
      · subst e; simp [Act.put, hd]; exact hv
      · rw [if_neg (by simpa using e)]
        have := h.tm t
        simpa [Act.put, Array.getElem?_setIfInBounds_ne e] using this
  · rw [h2]; cases dst <;> exact h.df

omit Sg in
theorem word_not_bool {v : Value} (h : isWord v = true) (want : Bool) : false = ((match some v with
    | some (.bool b) => some b
    | _ => none) == some want) := by
  cases v <;> first | rfl | cases h

theorem wantedA_eq {ι : Inj} {a : AA} {ac : Act} (h : AR ι a ac) (ops : Array Oper) (o : Oper) : wantedA ops.toList o a = Region.wanted o (yielded ops ac.tmps) := by
  unfold wantedA Region.wanted
  cases hg : o.guard with
  | none => rfl
  | some gw =>
    obtain ⟨j, want⟩ := gw
    simp only
    unfold yielded
    simp only [Array.getElem?_toList]
    cases ho : ops[j]? with
    | none => simp
    | some oj =>
      simp only [Option.bind_some]
      cases hd : oj.dst with
      | none => simp
      | some d =>
        simp only [Option.bind_some]
        by_cases hlt : d < a.n
        · have hb : Nat.blt d a.n = true := Nat.ble_eq_true_of_le hlt
          have hs : d < ac.tmps.size := by rw [h.size]; exact hlt
          simp only [hb, cond_true]
          have hv := h.tm d
          have hget : ac.tmps[d]? = some (ac.tmps.getD d undef) := by simp [hs]
          rw [hget]
          generalize ac.tmps.getD d undef = y at hv
          cases hx : a.look d <;> rw [hx] at hv <;> cases hv <;> first | rfl | (exact word_not_bool (Sg.word _) _) | (exact word_not_bool (by assumption) _) | (rename_i b; cases b <;> cases want <;> rfl)
        · have hb : Nat.blt d a.n = false := by
            cases hq : Nat.blt d a.n with
            | false => rfl
            | true => exact absurd (blt_lt hq) hlt
          simp only [hb, cond_false]
          rw [Array.getElem?_eq_none (by rw [h.size]; exact Nat.le_of_not_lt hlt)]
          simp

/-- What a run of calls must be good for. -/
def CallsOk (P : Program) (callK : FuncId → List Value → St → Option (Value × St)) : Prop :=
  ∀ g args s v s', callK g args s = some (v, s') → ∀ ι w ws, SR ι s w → LR ι args ws →
    Calls P g ⟨ws⟩ w fun e w' => ∃ ι' v', e = .returned v' ∧ VR ι' v v' ∧ Post ι s w ι' s' w'

section
variable {E : Env} {P : Program} {ι : Inj} {s s' : St} {w : World}

theorem callee_run (hE : E.Ok P) {a : AA} {ρ' : Operand → Value} {ρ : Operand → Option Value} (hρ : Env' ι ρ ρ') {o : Oper} {c : Call} (ho : o.op = .call c) {g : FuncId} {args : List Value} (hc : callee ρ c = some (g, args))
    (hen : ∀ as w, (callFunc g as).run P w = .ok (.enter g as) w) : ∃ ws, LR ι args ws ∧ (execOp ρ' o).run P w = .ok (.enter g ⟨ws⟩) w := by
  unfold callee at hc
  cases hcc : c.callee with
  | builtin b => simp only [hcc] at hc; cases hc
  | invoke r m => simp only [hcc] at hc; cases hc
  | value f =>
    simp only [hcc] at hc
    cases hf : ρ f with
    | none => rw [hf] at hc; cases hc
    | some fv => cases hev : evalL ρ c.args.toList with
      | none => rw [hf, hev] at hc; cases fv <;> (try cases hc); rename_i fn _ _; cases fn <;> cases hc
      | some vs =>
        rw [hf, hev] at hc
        cases fv <;> (try simp only at hc) <;> first | (cases hc; done) | skip
        rename_i fn first captured
        cases fn <;> (try simp only at hc) <;> first | (cases hc; done) | skip
        rename_i g0
        cases hc
        have hv := hρ _ _ hf
        have hl := evalL_LR hρ hev
        generalize hy : ρ' f = y at hv
        cases hv with
        | func _ _ _ us ws' h1 h2 =>
          refine ⟨us ++ (c.args.map ρ').toList ++ ws', ?_, ?_⟩
          · refine (h1.append ?_).append h2
            simpa using hl
          · unfold execOp
            simp only [ho, resolve, hcc, hy]
            simp only [Deferred.ofValue, Sem.run_bind, Sem.run_pure, Result.andThen_ok, invoke, hen]
            congr 2
            apply array_eq_of_toList
            simp

/-- One operation that is wanted: it goes on with what the shadow's comes to. -/
theorem step_wp (hE : E.Ok P) {ac : Act} {o : Oper} {ρ : Operand → Option Value} (hρ : Env' ι ρ ac.eval) (hs : SR ι s w) {next : Act → World → Prop} {Q : Exit → Act → World → Prop} {v : Value}
    (hstep : (cls E o.op = .pure ∧ apure E ρ o = some v ∧ s' = s) ∨ (cls E o.op = .read ∧ aread E ρ o s = some v ∧ s' = s) ∨ achain E ρ o s = some (v, s') ∨
      (∃ ob f, aalloc E ρ o = some (ob, f) ∧ v = f s.next ∧ s' = { heap := s.heap.set s.next ob, next := s.next + 1 }))
    (hk : ∀ ι' v' w', VR ι' v v' → Post ι s w ι' s' w' → next (ac.put o.dst v') w') : o.wp P ac w next Q := by
  unfold Oper.wp
  rcases hstep with ⟨hc, hp, rfl⟩ | ⟨hc, hp, rfl⟩ | hp | ⟨ob, f, hp, rfl, rfl⟩
  · obtain ⟨v', h1, h2⟩ := apure_meets hE hρ hc hp w
    rw [h1, Oper.upon_value]
    exact hk ι v' w h2 (Post.refl hs)
  · obtain ⟨v', h1, h2⟩ := aread_meets hE hρ hs hc hp
    rw [h1, Oper.upon_value]
    exact hk ι v' w h2 (Post.refl hs)
  · obtain ⟨nx, v', w', ι', h1, h2, h3, h4⟩ := achain_does hE hρ hs hp
    rw [h1]
    rcases h2 with rfl | ⟨rfl, rfl⟩
    · rw [Oper.upon_value]; exact hk ι' v' w' h3 h4
    · rw [Oper.upon_skip]; exact hk ι' _ w' h3 h4
  · obtain ⟨v', ob', ni, h1, h2, hz, h3⟩ := aalloc_makes (w := w) hE hρ hp
    obtain ⟨h4, h5⟩ := h3 s.next (next_none hs)
    rw [h1, Oper.upon_value]
    exact hk _ v' _ h5 (Post.push hs h2 h4 hz)

theorem call_wp (hE : E.Ok P) {ac : Act} {o : Oper} {ρ : Operand → Option Value} (hρ : Env' ι ρ ac.eval) (hs : SR ι s w) {next : Act → World → Prop} {Q : Exit → Act → World → Prop} {c : Call} (ho : o.op = .call c)
    {callK : FuncId → List Value → St → Option (Value × St)} (hcall : CallsOk P callK) {g : FuncId} {args : List Value} {v : Value} (hc : callee ρ c = some (g, args)) (hr : callK g args s = some (v, s'))
    (hen : ∀ as w, (callFunc g as).run P w = .ok (.enter g as) w)
    (hk : ∀ ι' v' w', VR ι' v v' → Post ι s w ι' s' w' → next (ac.put o.dst v') w') : o.wp P ac w next Q := by
  obtain ⟨ws, h1, h2⟩ := callee_run (a := ⟨.leaf, 0, []⟩) (w := w) hE hρ ho hc hen
  unfold Oper.wp
  rw [h2, Oper.upon_enter]
  refine (hcall _ _ _ _ _ hr ι w ws hs h1).mono ?_
  rintro e w' ⟨ι', v', rfl, h3, h4⟩
  exact hk ι' v' w' h3 h4

end
end Go.Sh
