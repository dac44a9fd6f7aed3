/-
  Runs of the shadow interpreter with some fuel: more fuel does no harm, and rules. (No program in it.) Runs of the shadow interpreter, by a code of smaller steps in which types are looked up ahead. (No program in it.)
-/
import Derived.Test.YtnhofgbjmofcnaaGreatRLa
import Derived.Test.YtnhofgbjmofcnaaGreatRLb

namespace Go.Sh
open Go

abbrev CallF := FuncId → List Value → St → Option (Value × St)
abbrev ExF := FuncId → Code → AA → St → Option (Ex × AA × St)

def CallLe (x y : CallF) : Prop := ∀ g as s r, x g as s = some r → y g as s = some r
def ExLe (x y : ExF) : Prop := ∀ f c a s r, x f c a s = some r → y f c a s = some r

theorem step1_mono {E : Env} {x y : CallF} (h : CallLe x y) {ops : List Oper} {o : Oper} {nm : Option Nat} {a : AA} {s : St} {r : AA × St}
    (hr : step1 E x ops o nm a s = some r) : step1 E y ops o nm a s = some r := by
  unfold step1 at hr ⊢
  cases hw : wantedA ops o a with
  | false => rw [hw] at hr; exact hr
  | true =>
    rw [hw] at hr
    simp only [cond_true] at hr ⊢
    cases hc : cls E o.op <;> rw [hc] at hr <;> try exact hr
    simp only at hr ⊢
    cases ho : o.op <;> rw [ho] at hr <;> try exact hr
    rename_i c
    simp only at hr ⊢
    cases hcl : callee a.eval c with
    | none => rw [hcl] at hr; exact hr
    | some p =>
      obtain ⟨g, args⟩ := p
      rw [hcl] at hr
      simp only at hr ⊢
      cases hx : x g args s with
      | none => rw [hx] at hr; cases hr
      | some q => rw [hx] at hr; rw [h g args s q hx]; exact hr

theorem runOps_mono {E : Env} {x y : CallF} (h : CallLe x y) {ops : List Oper} : ∀ {rest : List Oper} {a : AA} {s : St} {r : AA × St},
    runOps E x ops rest a s = some r → runOps E y ops rest a s = some r
  | [], _, _, _, hr => hr
  | o :: rest, a, s, r, hr => by
    unfold runOps at hr ⊢
    cases h1 : step1 E x ops o none a s with
    | none => rw [h1] at hr; cases hr
    | some q => rw [h1] at hr; rw [step1_mono h h1]; exact runOps_mono h hr

theorem runPlan_mono {E : Env} {x y : CallF} (h : CallLe x y) {ops : List Oper} {base : Nat} : ∀ {pl : List PStep} {a : AA} {s : St} {r : AA × St},
    runPlan E x ops base pl a s = some r → runPlan E y ops base pl a s = some r
  | [], _, _, _, hr => hr
  | p :: rest, a, s, r, hr => by
    unfold runPlan at hr ⊢
    cases ho : ops[p.i]? with
    | none => rw [ho] at hr; cases hr
    | some o =>
      rw [ho] at hr
      simp only at hr ⊢
      cases h1 : step1 E x ops o (some (base + p.i)) a s with
      | none => rw [h1] at hr; cases hr
      | some q =>
        rw [h1] at hr; rw [step1_mono h h1]
        simp only at hr ⊢
        cases hg : againOk E ops q.1 q.2 p.again with
        | false => rw [hg] at hr; cases hr
        | true => rw [hg] at hr; exact runPlan_mono h hr

theorem runDf_mono {x y : FuncId → List Value → St → Option St} (h : ∀ g as s r, x g as s = some r → y g as s = some r) : ∀ {ds : List Deferred} {s r : St},
    runDf x ds s = some r → runDf y ds s = some r
  | [], _, _, hr => hr
  | d :: ds, s, r, hr => by
    unfold runDf at hr ⊢
    cases ht : d.target with
    | fn f cap =>
      cases f with
      | func g =>
        rw [ht] at hr
        simp only at hr ⊢
        cases h1 : x g (d.args.toList ++ cap.toList) s with
        | none => rw [h1] at hr; cases hr
        | some q => rw [h1] at hr; rw [h _ _ _ _ h1]; exact runDf_mono h hr
      | _ => rw [ht] at hr; cases hr
    | _ => rw [ht] at hr; cases hr

theorem callBy_mono {E : Env} {x y : ExF} (h : ExLe x y) {b : Bool} {g : FuncId} {as : List Value} {s : St} {r : Value × St}
    (hr : callBy E x b g as s = some r) : callBy E y b g as s = some r := by
  unfold callBy at hr ⊢
  cases hf : E.fn.get g with
  | none => rw [hf] at hr; cases hr
  | some fn =>
    rw [hf] at hr
    simp only at hr ⊢
    cases hb : fn.body with
    | none => rw [hb] at hr; cases hr
    | some body =>
      rw [hb] at hr
      simp only at hr ⊢
      cases hl : lenIs fn.ntmps as with
      | false => rw [hl] at hr; cases hr
      | true =>
        rw [hl] at hr
        simp only [cond_true] at hr ⊢
        cases h1 : x g body { tm := ofArgs 0 as .leaf, n := fn.ntmps, df := [] } s with
        | none => rw [h1] at hr; cases hr
        | some q =>
          obtain ⟨e, a, s1⟩ := q
          rw [h1] at hr
          rw [h _ _ _ _ _ h1]
          cases b with
          | true => cases e <;> exact hr
          | false =>
            have key : ∀ r2, runDf (fun f as s => match E.fn.get f with
              | none => none
              | some fn' => match fn'.body with
                | none => none
                | some body' => cond (lenIs fn'.ntmps as)
                  (match x f body' { tm := ofArgs 0 as .leaf, n := fn'.ntmps, df := [] } s with
                   | some (.exit _, _, _) => none
                   | some (_, a', s') => match a'.df, aresults E a' s' fn'.results.toList with
                     | [], some _ => some s'
                     | _, _ => none
                   | none => none) none) a.df s1 = some r2 → runDf (fun f as s => match E.fn.get f with
              | none => none
              | some fn' => match fn'.body with
                | none => none
                | some body' => cond (lenIs fn'.ntmps as)
                  (match y f body' { tm := ofArgs 0 as .leaf, n := fn'.ntmps, df := [] } s with
                   | some (.exit _, _, _) => none
                   | some (_, a', s') => match a'.df, aresults E a' s' fn'.results.toList with
                     | [], some _ => some s'
                     | _, _ => none
                   | none => none) none) a.df s1 = some r2 := by
              intro r2
              apply runDf_mono
              intro f as s r3 h3
              cases hf' : E.fn.get f with
              | none => rw [hf'] at h3; cases h3
              | some fn' =>
                rw [hf'] at h3
                simp only at h3 ⊢
                cases hb' : fn'.body with
                | none => rw [hb'] at h3; cases h3
                | some body' =>
                  rw [hb'] at h3
                  simp only at h3 ⊢
                  cases hl' : lenIs fn'.ntmps as with
                  | false => rw [hl'] at h3; cases h3
                  | true =>
                    rw [hl'] at h3
                    simp only [cond_true] at h3 ⊢
                    cases h4 : x f body' { tm := ofArgs 0 as .leaf, n := fn'.ntmps, df := [] } s with
                    | none => rw [h4] at h3; cases h3
                    | some q => rw [h4] at h3; rw [h _ _ _ _ _ h4]; exact h3
            cases e with
            | exit i => exact hr
            | normal =>
              simp only [cond_false] at hr ⊢
              split at hr
              · rename_i s2 h2
                erw [key _ h2]; exact hr
              · cases hr
            | ret =>
              simp only [cond_false] at hr ⊢
              split at hr
              · rename_i s2 h2
                erw [key _ h2]; exact hr
              · cases hr

theorem callOf_mono {E : Env} {x y : ExF} (h : ExLe x y) : CallLe (callOf E x) (callOf E y) := by
  intro g as s r hr
  unfold callOf at hr ⊢
  cases hp : E.prim g with
  | some p => rw [hp] at hr; exact hr
  | none => rw [hp] at hr; exact callBy_mono h hr

theorem exec_succ {E : Env} : ∀ k, ExLe (exec E k) (exec E (k + 1))
  | 0 => fun f c a s r hr => by cases hr
  | k + 1 => by
    have ih := exec_succ (E := E) k
    have hc := callOf_mono (E := E) ih
    intro f c a s r hr
    cases c with
    | seq x y =>
      simp only [exec] at hr
      show (match exec E (k + 1) f x a s with | some (.normal, a', s') => exec E (k + 1) f y a' s' | r => r) = some r
      cases h1 : exec E k f x a s with
      | none => rw [h1] at hr; cases hr
      | some q =>
        obtain ⟨e, a', s'⟩ := q
        rw [h1] at hr; rw [ih _ _ _ _ _ h1]
        cases e with
        | normal => exact ih _ _ _ _ _ hr
        | exit i => exact hr
        | ret => exact hr
    | cond c x y =>
      simp only [exec] at hr
      show (match a.eval c with | some (.bool true) => exec E (k + 1) f x a s | some (.bool false) => exec E (k + 1) f y a s | _ => none) = some r
      split at hr
      · rename_i hb; rw [hb]; exact ih _ _ _ _ _ hr
      · rename_i hb; rw [hb]; exact ih _ _ _ _ _ hr
      · cases hr
    | block id c =>
      simp only [exec] at hr
      show (match exec E (k + 1) f c a s with | some (.exit j, a', s') => cond (Nat.beq j id) (some (.normal, a', s')) (some (.exit j, a', s')) | r => r) = some r
      cases h1 : exec E k f c a s with
      | none => rw [h1] at hr; cases hr
      | some q => rw [h1] at hr; rw [ih _ _ _ _ _ h1]; exact hr
    | loop c =>
      simp only [exec] at hr
      show (match exec E (k + 1) f c a s with | some (.normal, a', s') => exec E (k + 1) f (.loop c) a' s' | r => r) = some r
      cases h1 : exec E k f c a s with
      | none => rw [h1] at hr; cases hr
      | some q =>
        obtain ⟨e, a', s'⟩ := q
        rw [h1] at hr; rw [ih _ _ _ _ _ h1]
        cases e with
        | normal => exact ih _ _ _ _ _ hr
        | exit i => exact hr
        | ret => exact hr
    | region id ops draw =>
      simp only [exec] at hr
      show cond draw
        (match E.plan f id with
         | some pl => match runPlan E (callOf E (exec E (k + 1))) ops.toList s.next pl a { s with next := s.next + ops.toList.length } with
           | some (a', s') => some (.normal, a', s')
           | none => none
         | none => none)
        (match runOps E (callOf E (exec E (k + 1))) ops.toList ops.toList a s with
         | some (a', s') => some (.normal, a', s')
         | none => none) = some r
      cases draw with
      | true =>
        simp only [cond_true] at hr ⊢
        cases hp : E.plan f id with
        | none => rw [hp] at hr; cases hr
        | some pl =>
          rw [hp] at hr
          simp only at hr ⊢
          split at hr
          · rename_i a' s' h1; rw [runPlan_mono hc h1]; exact hr
          · cases hr
      | false =>
        simp only [cond_false] at hr ⊢
        split at hr
        · rename_i a' s' h1; rw [runOps_mono hc h1]; exact hr
        · cases hr
    | _ => first | exact hr | (simp only [exec] at hr; cases hr)

theorem exec_mono {E : Env} {k l : Nat} (h : k ≤ l) : ExLe (exec E k) (exec E l) := by
  obtain ⟨d, rfl⟩ := Nat.le.dest h
  induction d with
  | zero => exact fun _ _ _ _ _ hr => hr
  | succ d ih => exact fun f c a s r hr => exec_succ (k + d) f c a s r (ih (Nat.le_add_right _ _) f c a s r hr)

theorem calls_mono {E : Env} {k l : Nat} (h : k ≤ l) : CallLe (calls E k) (calls E l) := callOf_mono (exec_mono h)

/-! ### with some fuel -/
def W (E : Env) (f : FuncId) (c : Code) (a : AA) (s : St) (Q : Ex → AA → St → Prop) : Prop := ∃ k e a' s', exec E k f c a s = some (e, a', s') ∧ Q e a' s'
def WC (E : Env) (g : FuncId) (args : List Value) (s : St) (Q : Value → St → Prop) : Prop := ∃ k v s', calls E k g args s = some (v, s') ∧ Q v s'
def WO (E : Env) (ops rest : List Oper) (a : AA) (s : St) (Q : AA → St → Prop) : Prop := ∃ k a' s', runOps E (calls E k) ops rest a s = some (a', s') ∧ Q a' s'
def WP (E : Env) (ops : List Oper) (base : Nat) (pl : List PStep) (a : AA) (s : St) (Q : AA → St → Prop) : Prop := ∃ k a' s', runPlan E (calls E k) ops base pl a s = some (a', s') ∧ Q a' s'
def WS (E : Env) (ops : List Oper) (o : Oper) (nm : Option Nat) (a : AA) (s : St) (Q : AA → St → Prop) : Prop := ∃ k a' s', step1 E (calls E k) ops o nm a s = some (a', s') ∧ Q a' s'

variable {E : Env} {f : FuncId} {a : AA} {s : St}

theorem WC.mono {g : FuncId} {args : List Value} {Q R : Value → St → Prop} (h : WC E g args s Q) (hq : ∀ v s', Q v s' → R v s') : WC E g args s R :=
  let ⟨k, v, s', h1, h2⟩ := h
  ⟨k, v, s', h1, hq v s' h2⟩

theorem W.mono {c : Code} {Q R : Ex → AA → St → Prop} (h : W E f c a s Q) (hq : ∀ e a' s', Q e a' s' → R e a' s') : W E f c a s R :=
  let ⟨k, e, a', s', h1, h2⟩ := h
  ⟨k, e, a', s', h1, hq e a' s' h2⟩

theorem W_one {c : Code} {Q : Ex → AA → St → Prop} {e : Ex} (h : ∀ k, exec E (k + 1) f c a s = some (e, a, s)) : W E f c a s Q ↔ Q e a s := by
  constructor
  · rintro ⟨k, e', a', s', h1, h2⟩
    cases k with
    | zero => cases h1
    | succ k => rw [h k] at h1; cases h1; exact h2
  · exact fun hq => ⟨1, e, a, s, h 0, hq⟩

theorem W_skip {Q : Ex → AA → St → Prop} : W E f .skip a s Q ↔ Q .normal a s := W_one fun _ => rfl
theorem W_label {l} {Q : Ex → AA → St → Prop} : W E f (.label l) a s Q ↔ Q .normal a s := W_one fun _ => rfl
theorem W_exit {i : Nat} {Q : Ex → AA → St → Prop} : W E f (.exit i) a s Q ↔ Q (.exit i) a s := W_one fun _ => rfl
theorem W_ret {Q : Ex → AA → St → Prop} : W E f .ret a s Q ↔ Q .ret a s := W_one fun _ => rfl

/-- What comes behind. -/
def thenW (E : Env) (f : FuncId) (y : Code) (Q : Ex → AA → St → Prop) (e : Ex) (a : AA) (s : St) : Prop :=
  match e with
  | .normal => W E f y a s Q
  | e => Q e a s

theorem then_normal {y : Code} {Q : Ex → AA → St → Prop} : thenW E f y Q .normal a s ↔ W E f y a s Q := .rfl
theorem then_exit {y : Code} {Q : Ex → AA → St → Prop} {i : Nat} : thenW E f y Q (.exit i) a s ↔ Q (.exit i) a s := .rfl
theorem then_ret {y : Code} {Q : Ex → AA → St → Prop} : thenW E f y Q .ret a s ↔ Q .ret a s := .rfl

theorem W_seq {x y : Code} {Q : Ex → AA → St → Prop} : W E f (.seq x y) a s Q ↔ W E f x a s (thenW E f y Q) := by
  constructor
  · rintro ⟨k, e, a', s', h1, h2⟩
    cases k with
    | zero => cases h1
    | succ k =>
      simp only [exec] at h1
      cases hx : exec E k f x a s with
      | none => rw [hx] at h1; cases h1
      | some q =>
        obtain ⟨e1, a1, s1⟩ := q
        rw [hx] at h1
        cases e1 with
        | normal => exact ⟨k, _, _, _, hx, k, _, _, _, h1, h2⟩
        | exit i => cases h1; exact ⟨k, _, _, _, hx, h2⟩
        | ret => cases h1; exact ⟨k, _, _, _, hx, h2⟩
  · rintro ⟨k, e, a', s', h1, h2⟩
    cases e with
    | normal =>
      obtain ⟨l, e2, a2, s2, h3, h4⟩ := h2
      refine ⟨max k l + 1, e2, a2, s2, ?_, h4⟩
      simp only [exec]
      rw [exec_mono (Nat.le_max_left k l) _ _ _ _ _ h1]
      exact exec_mono (Nat.le_max_right k l) _ _ _ _ _ h3
    | exit i => exact ⟨k + 1, _, _, _, by simp only [exec]; rw [h1], h2⟩
    | ret => exact ⟨k + 1, _, _, _, by simp only [exec]; rw [h1], h2⟩

theorem W_cond {c : Operand} {x y : Code} {Q : Ex → AA → St → Prop} : W E f (.cond c x y) a s Q ↔ ∃ b, a.eval c = some (.bool b) ∧ (b = true → W E f x a s Q) ∧ (b = false → W E f y a s Q) := by
  constructor
  · rintro ⟨k, e, a', s', h1, h2⟩
    cases k with
    | zero => cases h1
    | succ k =>
      simp only [exec] at h1
      split at h1
      · rename_i hb; exact ⟨true, hb, fun _ => ⟨k, _, _, _, h1, h2⟩, (fun h => nomatch h)⟩
      · rename_i hb; exact ⟨false, hb, (fun h => nomatch h), fun _ => ⟨k, _, _, _, h1, h2⟩⟩
      · cases h1
  · rintro ⟨b, hb, h1, h2⟩
    cases b with
    | true =>
      obtain ⟨k, e, a', s', h3, h4⟩ := h1 rfl
      exact ⟨k + 1, e, a', s', by simp only [exec]; rw [hb]; exact h3, h4⟩
    | false =>
      obtain ⟨k, e, a', s', h3, h4⟩ := h2 rfl
      exact ⟨k + 1, e, a', s', by simp only [exec]; rw [hb]; exact h3, h4⟩

def blockW (id : Nat) (Q : Ex → AA → St → Prop) (e : Ex) (a : AA) (s : St) : Prop :=
  match e with
  | .exit j => cond (Nat.beq j id) (Q .normal a s) (Q (.exit j) a s)
  | e => Q e a s

theorem block_normal {id : Nat} {Q : Ex → AA → St → Prop} : blockW id Q .normal a s ↔ Q .normal a s := .rfl
theorem block_ret {id : Nat} {Q : Ex → AA → St → Prop} : blockW id Q .ret a s ↔ Q .ret a s := .rfl
theorem block_exit {id j : Nat} {Q : Ex → AA → St → Prop} : blockW id Q (.exit j) a s ↔ cond (Nat.beq j id) (Q .normal a s) (Q (.exit j) a s) := .rfl

theorem W_block {id : Nat} {c : Code} {Q : Ex → AA → St → Prop} : W E f (.block id c) a s Q ↔ W E f c a s (blockW id Q) := by
  constructor
  · rintro ⟨k, e, a', s', h1, h2⟩
    cases k with
    | zero => cases h1
    | succ k =>
      simp only [exec] at h1
      cases hx : exec E k f c a s with
      | none => rw [hx] at h1; cases h1
      | some q =>
        obtain ⟨e1, a1, s1⟩ := q
        rw [hx] at h1
        refine ⟨k, _, _, _, hx, ?_⟩
        cases e1 with
        | normal => cases h1; exact h2
        | ret => cases h1; exact h2
        | exit j =>
          simp only at h1
          show cond (Nat.beq j id) (Q .normal a1 s1) (Q (.exit j) a1 s1)
          cases hj : Nat.beq j id <;> rw [hj] at h1 <;> cases h1 <;> exact h2
  · rintro ⟨k, e, a', s', h1, h2⟩
    cases e with
    | normal => exact ⟨k + 1, _, _, _, by simp only [exec]; rw [h1], h2⟩
    | ret => exact ⟨k + 1, _, _, _, by simp only [exec]; rw [h1], h2⟩
    | exit j =>
      have h2 : cond (Nat.beq j id) (Q .normal a' s') (Q (.exit j) a' s') := h2
      cases hj : Nat.beq j id <;> rw [hj] at h2
      · exact ⟨k + 1, _, _, _, by simp only [exec]; rw [h1]; simp only; rw [hj]; rfl, h2⟩
      · exact ⟨k + 1, _, _, _, by simp only [exec]; rw [h1]; simp only; rw [hj]; rfl, h2⟩

theorem W_loop {c : Code} {Q : Ex → AA → St → Prop} : W E f (.loop c) a s Q ↔ W E f c a s (thenW E f (.loop c) Q) := by
  constructor
  · rintro ⟨k, e, a', s', h1, h2⟩
    cases k with
    | zero => cases h1
    | succ k =>
      simp only [exec] at h1
      cases hx : exec E k f c a s with
      | none => rw [hx] at h1; cases h1
      | some q =>
        obtain ⟨e1, a1, s1⟩ := q
        rw [hx] at h1
        cases e1 with
        | normal => exact ⟨k, _, _, _, hx, k, _, _, _, h1, h2⟩
        | exit i => cases h1; exact ⟨k, _, _, _, hx, h2⟩
        | ret => cases h1; exact ⟨k, _, _, _, hx, h2⟩
  · rintro ⟨k, e, a', s', h1, h2⟩
    cases e with
    | normal =>
      obtain ⟨l, e2, a2, s2, h3, h4⟩ := h2
      refine ⟨max k l + 1, e2, a2, s2, ?_, h4⟩
      simp only [exec]
      rw [exec_mono (Nat.le_max_left k l) _ _ _ _ _ h1]
      exact exec_mono (Nat.le_max_right k l) _ _ _ _ _ h3
    | exit i => exact ⟨k + 1, _, _, _, by simp only [exec]; rw [h1], h2⟩
    | ret => exact ⟨k + 1, _, _, _, by simp only [exec]; rw [h1], h2⟩

theorem W_ops {id : Nat} {ops : Array Oper} {Q : Ex → AA → St → Prop} : W E f (.region id ops false) a s Q ↔ WO E ops.toList ops.toList a s (fun a' s' => Q .normal a' s') := by
  constructor
  · rintro ⟨k, e, a', s', h1, h2⟩
    cases k with
    | zero => cases h1
    | succ k =>
      simp only [exec, cond_false] at h1
      split at h1
      · rename_i a1 s1 h3; cases h1; exact ⟨k, _, _, h3, h2⟩
      · cases h1
  · rintro ⟨k, a', s', h1, h2⟩
    refine ⟨k + 1, _, _, _, ?_, h2⟩
    simp only [exec, cond_false]
    have : runOps E (callOf E (exec E k)) ops.toList ops.toList a s = some (a', s') := h1
    rw [this]

theorem W_draw {id : Nat} {ops : Array Oper} {Q : Ex → AA → St → Prop} : W E f (.region id ops true) a s Q ↔
    ∃ pl, E.plan f id = some pl ∧ WP E ops.toList s.next pl a { s with next := s.next + ops.toList.length } (fun a' s' => Q .normal a' s') := by
  constructor
  · rintro ⟨k, e, a', s', h1, h2⟩
    cases k with
    | zero => cases h1
    | succ k =>
      simp only [exec, cond_true] at h1
      split at h1
      · rename_i pl hp
        split at h1
        · rename_i a1 s1 h3; cases h1; exact ⟨pl, hp, k, _, _, h3, h2⟩
        · cases h1
      · cases h1
  · rintro ⟨pl, hp, k, a', s', h1, h2⟩
    refine ⟨k + 1, _, _, _, ?_, h2⟩
    simp only [exec, cond_true]
    have : runPlan E (callOf E (exec E k)) ops.toList s.next pl a { s with next := s.next + ops.toList.length } = some (a', s') := h1
    rw [hp]; simp only; rw [this]

theorem WO_nil {ops : List Oper} {Q : AA → St → Prop} : WO E ops [] a s Q ↔ Q a s :=
  ⟨fun ⟨_, _, _, h1, h2⟩ => by cases h1; exact h2, fun h => ⟨0, _, _, rfl, h⟩⟩

theorem WO_cons {ops : List Oper} {o : Oper} {rest : List Oper} {Q : AA → St → Prop} : WO E ops (o :: rest) a s Q ↔ WS E ops o none a s (fun a' s' => WO E ops rest a' s' Q) := by
  constructor
  · rintro ⟨k, a', s', h1, h2⟩
    unfold runOps at h1
    split at h1
    · rename_i a1 s1 h3; exact ⟨k, _, _, h3, k, _, _, h1, h2⟩
    · cases h1
  · rintro ⟨k, a1, s1, h1, l, a', s', h3, h2⟩
    refine ⟨max k l, _, _, ?_, h2⟩
    unfold runOps
    rw [step1_mono (calls_mono (Nat.le_max_left k l)) h1]
    exact runOps_mono (calls_mono (Nat.le_max_right k l)) h3

theorem WP_nil {ops : List Oper} {base : Nat} {Q : AA → St → Prop} : WP E ops base [] a s Q ↔ Q a s :=
  ⟨fun ⟨_, _, _, h1, h2⟩ => by cases h1; exact h2, fun h => ⟨0, _, _, rfl, h⟩⟩

theorem WP_cons {ops : List Oper} {base : Nat} {p : PStep} {rest : List PStep} {Q : AA → St → Prop} : WP E ops base (p :: rest) a s Q ↔
    ∃ o, ops[p.i]? = some o ∧ WS E ops o (some (base + p.i)) a s (fun a' s' => againOk E ops a' s' p.again = true ∧ WP E ops base rest a' s' Q) := by
  constructor
  · rintro ⟨k, a', s', h1, h2⟩
    unfold runPlan at h1
    split at h1
    · cases h1
    · rename_i o ho
      split at h1
      · rename_i a1 s1 h3
        cases hg : againOk E ops a1 s1 p.again with
        | false => rw [hg] at h1; cases h1
        | true => rw [hg] at h1; exact ⟨o, ho, k, _, _, h3, hg, k, _, _, h1, h2⟩
      · cases h1
  · rintro ⟨o, ho, k, a1, s1, h1, hg, l, a', s', h3, h2⟩
    refine ⟨max k l, _, _, ?_, h2⟩
    unfold runPlan
    rw [ho]
    simp only
    rw [step1_mono (calls_mono (Nat.le_max_left k l)) h1]
    simp only
    rw [hg]
    exact runPlan_mono (calls_mono (Nat.le_max_right k l)) h3

/-- An operation that is no call. -/
theorem WS_plain {ops : List Oper} {o : Oper} {nm : Option Nat} {Q : AA → St → Prop} (h : cls E o.op ≠ .call) : WS E ops o nm a s Q ↔
    ∃ a' s', step1 E (fun _ _ _ => none) ops o nm a s = some (a', s') ∧ Q a' s' := by
  have key : ∀ x, step1 E x ops o nm a s = step1 E (fun _ _ _ => none) ops o nm a s := by
    intro x
    unfold step1
    cases hw : wantedA ops o a with
    | false => rfl
    | true =>
      simp only [cond_true]
      cases hc : cls E o.op <;> first | rfl | exact absurd hc h
  constructor
  · rintro ⟨k, a', s', h1, h2⟩
    rw [key] at h1; exact ⟨a', s', h1, h2⟩
  · rintro ⟨a', s', h1, h2⟩
    exact ⟨0, a', s', by rw [key]; exact h1, h2⟩

theorem WS_call {ops : List Oper} {o : Oper} {nm : Option Nat} {c : Call} {Q : AA → St → Prop} (h : cls E o.op = .call) (ho : o.op = .call c) (hg : o.guard = none) : WS E ops o nm a s Q ↔
    ∃ g args, callee a.eval c = some (g, args) ∧ WC E g args s (fun v s' => ∃ a', a.put o.dst v = some a' ∧ Q a' s') := by
  have hw : wantedA ops o a = true := by unfold wantedA; rw [hg]
  constructor
  · rintro ⟨k, a', s', h1, h2⟩
    unfold step1 at h1
    rw [hw, h, ho] at h1
    simp only [cond_true] at h1
    split at h1
    · rename_i g args hc
      split at h1
      · rename_i v s1 h3
        split at h1
        · rename_i a1 h4; cases h1; exact ⟨g, args, hc, k, v, _, h3, _, h4, h2⟩
        · cases h1
      · cases h1
    · cases h1
  · rintro ⟨g, args, hc, k, v, s', h3, a', h4, h2⟩
    refine ⟨k, a', s', ?_, h2⟩
    unfold step1
    rw [hw, h, ho]
    simp only [cond_true]
    rw [hc]; simp only; rw [h3]; simp only; rw [h4]

/-- A call of a function that is run. -/
theorem WC_body {g : FuncId} {fn : Func} {body : Code} {args : List Value} {Q : Value → St → Prop} (hp : E.prim g = none) (hf : E.fn.get g = some fn) (hb : fn.body = some body) (hl : lenIs fn.ntmps args = true)
    (h : W E g body { tm := ofArgs 0 args .leaf, n := fn.ntmps, df := [] } s (fun e a' s' => (∀ i, e ≠ .exit i) ∧ a'.df = [] ∧ ∃ vs, aresults E a' s' fn.results.toList = some vs ∧ Q (oneOr vs) s')) : WC E g args s Q := by
  obtain ⟨k, e, a', s', h1, h2, h3, vs, h4, h5⟩ := h
  refine ⟨k, oneOr vs, s', ?_, h5⟩
  show callOf E (exec E k) g args s = _
  unfold callOf
  rw [hp]
  simp only
  unfold callBy
  rw [hf]; simp only; rw [hb]; simp only; rw [hl]; simp only [cond_true]; rw [h1]
  cases e with
  | exit i => exact absurd rfl (h2 i)
  | normal => simp only; rw [h3]; simp only; rw [h4]
  | ret => simp only; rw [h3]; simp only; rw [h4]

theorem WC_prim {g : FuncId} {p : List Value → St → Option (Value × St)} {args : List Value} {v : Value} {s' : St} {Q : Value → St → Prop} (hp : E.prim g = some p) (h : p args s = some (v, s')) (hq : Q v s') : WC E g args s Q :=
  ⟨0, v, s', by show callOf E (exec E 0) g args s = _; unfold callOf; rw [hp]; exact h, hq⟩

end Go.Sh

namespace Go.Sh
open Go

inductive MV where
  | t (n : Nat)
  | c (v : Value)
  | f (g : Nat)

abbrev Rho := Nat → Value

def MV.ev (ρ : Rho) : MV → Value
  | .t n => ρ n
  | .c v => v
  | .f g => .func (.func g) #[] #[]

def evO (ρ : Rho) : Operand → Option Value
  | .tmp t => some (ρ t)
  | .const v => cond (plainV v) (some v) none
  | .global _ => none
  | .func f => some (.func (.func f) #[] #[])

def cv : Operand → Option MV
  | .tmp t => some (.t t)
  | .const v => cond (plainV v) (some (.c v)) none
  | .global _ => none
  | .func f => some (.f f)

theorem cv_ev {x : Operand} {m : MV} (h : cv x = some m) (ρ : Rho) : evO ρ x = some (m.ev ρ) := by
  cases x with
  | tmp t => cases h; rfl
  | const v =>
    simp only [cv] at h
    simp only [evO]
    cases hp : plainV v with
    | true => rw [hp] at h; cases h; rfl
    | false => rw [hp] at h; cases h
  | global g => cases h
  | func f => cases h; rfl

/-- Small steps that are no calls. -/
inductive MI where
  | val (x : MV)
  | pick (c x y : MV)
  | nilck (x : MV)
  | not (x : MV)
  | bin (op : BinOp) (x y : MV)
  | lea (x : MV) (off : Nat)
  | fld (x : MV) (off : Nat) (sz : Option Nat)
  | idxA (x i : MV) (sz : Nat)
  | ld (x : MV) (sz : Option Nat)
  | st (x v : MV) (sz : Nat)
  | alloc (zs : List Value)
  | box (x : MV)
  | ext (x : MV) (i : Nat)
  | lenS (x : MV)
  | conv (k : IntKind) (x : MV)
  | bld (zs : List Value) (ps : List (Nat × Nat × MV))
  | eqv (t : Nat) (neg : Bool) (x y : MV)
  | gen (op : Op)

def opRun (E : Env) (e : Operand → Option Value) (o : Oper) (nm : Option Nat) (s : St) : Option (Value × St) :=
  match cls E o.op with
  | .pure => match apure E e o with
    | some v => some (v, s)
    | none => none
  | .read => match aread E e o s with
    | some v => some (v, s)
    | none => none
  | .alloc => match aalloc E e o with
    | some (ob, f) => match nm with
      | some n => some (f n, { s with heap := s.heap.set n ob })
      | none => some (f s.next, { heap := s.heap.set s.next ob, next := s.next + 1 })
    | none => none
  | .chain => achain E e o s
  | _ => none

def gop (op : Op) : Oper := ⟨none, op, 0, "", #[], none⟩

theorem opRun_gop {E : Env} {e : Operand → Option Value} {o : Oper} {nm : Option Nat} {s : St} : opRun E e (gop o.op) nm s = opRun E e o nm s := rfl

/-- Cells from a place on. -/
def cut (cs : List Value) (off : Nat) : Option Nat → Option Value
  | none => (cs.drop off).head?
  | some n => match takeN n (cs.drop off) with
    | some r => some (.agg r.toArray)
    | none => none

def binV (op : BinOp) (x y : Value) : Option Value :=
  match x, y with
  | .int k a, .int k' b => match op with
    | .shl => ashift .shl k a b
    | .shr => ashift .shr k a b
    | op => if k = k' then aint op k a b else none
  | _, _ => none

def bldV (ρ : Rho) : List Value → List (Nat × Nat × MV) → Option (List Value)
  | zs, [] => some zs
  | zs, (off, sz, m) :: rest => cond (sizeIs sz (cellsOf (m.ev ρ)))
    (match setN zs off (cellsOf (m.ev ρ)) with
     | some c => bldV ρ c rest
     | none => none) none

def eqv0 (E : Env) (s : St) (t : Nat) (x y : Value) : Option Bool :=
  match x, y with
  | .int _ _, _ => none
  | .string _, _ => none
  | .nilIface, .nilIface => none
  | a, b => aeq E s 8 t a b

def eqvV (r : Option Bool) (neg : Bool) (s : St) : Option (Value × St) :=
  match r with
  | some r => some (.bool (cond neg (!r) r), s)
  | none => none

def MI.run (E : Env) (ρ : Rho) (nm : Option Nat) (s : St) : MI → Option (Value × St)
  | .val x => some (x.ev ρ, s)
  | .pick c x y => match c.ev ρ with
    | .bool t => some (cond t (x.ev ρ) (y.ev ρ), s)
    | _ => none
  | .nilck x => match x.ev ρ with
    | .pointer (some a) => some (.pointer (some a), s)
    | _ => none
  | .not x => match x.ev ρ with
    | .bool b => some (.bool (!b), s)
    | _ => none
  | .bin op x y => match binV op (x.ev ρ) (y.ev ρ) with
    | some v => some (v, s)
    | none => none
  | .lea x off => match x.ev ρ with
    | .pointer (some ⟨b, o, none⟩) => some (.pointer (some ⟨b, o + off, none⟩), s)
    | _ => none
  | .fld x off sz => match x.ev ρ with
    | .agg cs => match cut cs.toList off sz with
      | some v => some (v, s)
      | none => none
    | _ => none
  | .idxA x i sz => match x.ev ρ, i.ev ρ with
    | .slice (some ⟨b, o, none⟩) len _, .int _ n => if 0 ≤ n ∧ n < len then some (.pointer (some ⟨b, o + n.toNat * sz, none⟩), s) else none
    | _, _ => none
  | .ld x sz => match x.ev ρ with
    | .pointer (some ⟨b, o, none⟩) => match s.heap.get b with
      | some (.cells cs _ _) => match cut cs o sz with
        | some v => some (v, s)
        | none => none
      | _ => none
    | _ => none
  | .st x v sz => match x.ev ρ with
    | .pointer (some ⟨b, o, none⟩) => match s.heap.get b with
      | some (.cells cs esz false) => cond (sizeIs sz (cellsOf (v.ev ρ)) && allV isCell (cellsOf (v.ev ρ)))
        (match setN cs o (cellsOf (v.ev ρ)) with
         | some c => some (undef, { s with heap := s.heap.set b (.cells c esz false) })
         | none => none) none
      | _ => none
    | _ => none
  | .alloc zs => match nm with
    | some n => some (.pointer (some ⟨n, 0, none⟩), { s with heap := s.heap.set n (.cells zs none false) })
    | none => some (.pointer (some ⟨s.next, 0, none⟩), { heap := s.heap.set s.next (.cells zs none false), next := s.next + 1 })
  | .box x => match nm with
    | some n => some (.pointer (some ⟨n, 0, none⟩), { s with heap := s.heap.set n (.cells (cellsOf (x.ev ρ)) none false) })
    | none => some (.pointer (some ⟨s.next, 0, none⟩), { heap := s.heap.set s.next (.cells (cellsOf (x.ev ρ)) none false), next := s.next + 1 })
  | .ext x i => match x.ev ρ with
    | .tuple vs => match vs.toList[i]? with
      | some v => some (v, s)
      | none => none
    | _ => none
  | .lenS x => match x.ev ρ with
    | .slice _ n _ => some (.int .i64 n, s)
    | _ => none
  | .conv k x => match x.ev ρ with
    | .int _ n => some (.int k (k.wrap n), s)
    | _ => none
  | .bld zs ps => match bldV ρ zs ps with
    | some c => some (.agg c.toArray, s)
    | none => none
  | .eqv t neg x y => eqvV (eqv0 E s t (x.ev ρ) (y.ev ρ)) neg s
  | .gen op => opRun E (evO ρ) (gop op) nm s

def szOf (ti : TI) : Option Nat := cond (isAgg ti.und) (some ti.size) none

theorem partAt_cut {ti : TI} {cs : List Value} {off : Nat} : partAt ti cs off = cut cs off (szOf ti) := by
  unfold partAt szOf
  cases isAgg ti.und with
  | true => rfl
  | false => rfl

def resP (E : Env) (fs : List Field) : List (Nat × Operand) → Option (List (Nat × Nat × MV))
  | [] => some []
  | (i, x) :: rest => match fs[i]?, cv x, resP E fs rest with
    | some f, some m, some ps => match E.ty.get f.type with
      | some tf => some ((f.offset, tf.size, m) :: ps)
      | none => none
    | _, _, _ => none

theorem resP_ok {E : Env} {fs : List Field} {ρ : Rho} : ∀ {l : List (Nat × Operand)} {ps : List (Nat × Nat × MV)}, resP E fs l = some ps →
    ∃ vs, evalP (evO ρ) l = some vs ∧ ∀ zs, fillS E fs vs zs = bldV ρ zs ps
  | [], ps, h => by cases h; exact ⟨[], rfl, fun zs => rfl⟩
  | (i, x) :: rest, ps, h => by
    unfold resP at h
    split at h
    · rename_i f m ps' hf hm hr
      split at h
      · rename_i tf htf
        cases h
        obtain ⟨vs, h1, h2⟩ := resP_ok (ρ := ρ) hr
        refine ⟨(i, m.ev ρ) :: vs, by unfold evalP; rw [cv_ev hm ρ, h1], fun zs => ?_⟩
        unfold fillS bldV
        rw [hf]
        simp only [htf]
        congr 1
        cases setN zs f.offset (cellsOf (m.ev ρ)) with
        | none => rfl
        | some c => exact h2 c
      · cases h
    · cases h

/-- The step of an operation that is no call. -/
def compI (E : Env) (o : Oper) : MI :=
  match o.op with
  | .move x => match cv x with
    | some m => .val m
    | none => .gen o.op
  | .assign x => match cv x with
    | some m => .val m
    | none => .gen o.op
  | .pick c x y => match cv c, cv x, cv y with
    | some mc, some mx, some my => .pick mc mx my
    | _, _, _ => .gen o.op
  | .nilCheck x => match cv x with
    | some m => .nilck m
    | none => .gen o.op
  | .unOp .not _ x => match cv x with
    | some m => .not m
    | none => .gen o.op
  | .binOp op t x y _ => match cv x, cv y, E.ty.get t with
    | some mx, some my, some ti => cond (isNum ti.und) (.bin op mx my) (cond (isInt ti.und) (.gen o.op) (match op with
      | .eql => .eqv t false mx my
      | .neq => .eqv t true mx my
      | _ => .gen o.op))
    | _, _, _ => .gen o.op
  | .build t parts => match E.ty.get t with
    | some ti => match ti.und with
      | .struct fs => cond (known E fs.toList) (match resP E fs.toList parts.toList with
        | some ps => .bld ti.zero ps
        | none => .gen o.op) (.gen o.op)
      | _ => .gen o.op
    | none => .gen o.op
  | .fieldAddr t x i => match cv x, E.ty.get t with
    | some m, some ti => match ti.und with
      | .struct fs => match fs.toList[i]? with
        | some f => match E.ty.get f.type with
          | some tf => cond (Nat.beq tf.size 0) (.gen o.op) (.lea m f.offset)
          | none => .gen o.op
        | none => .gen o.op
      | _ => .gen o.op
    | _, _ => .gen o.op
  | .field t x i => match cv x, E.ty.get t with
    | some m, some ti => match ti.und with
      | .struct fs => match fs.toList[i]? with
        | some f => match E.ty.get f.type with
          | some tf => .fld m f.offset (szOf tf)
          | none => .gen o.op
        | none => .gen o.op
      | _ => .gen o.op
    | _, _ => .gen o.op
  | .indexAddr t x i => match cv x, cv i, E.ty.get t with
    | some mx, some mi, some ti => match ti.und with
      | .slice e => match E.ty.get e with
        | some te => .idxA mx mi te.size
        | none => .gen o.op
      | _ => .gen o.op
    | _, _, _ => .gen o.op
  | .load t x => match cv x, E.ty.get t with
    | some m, some ti => .ld m (szOf ti)
    | _, _ => .gen o.op
  | .store t x v => match cv x, cv v, E.ty.get t with
    | some mx, some mv, some ti => .st mx mv ti.size
    | _, _, _ => .gen o.op
  | .alloc t => match E.ty.get t with
    | some ti => .alloc ti.zero
    | none => .gen o.op
  | .box _ x => match cv x with
    | some m => .box m
    | none => .gen o.op
  | .extract x i => match cv x with
    | some m => .ext m i
    | none => .gen o.op
  | .convert s d x => match cv x, E.ty.get s, E.ty.get d with
    | some m, some ts, some td => match ts.und, td.und with
      | .int _, .int k => .conv k m
      | _, _ => .gen o.op
    | _, _, _ => .gen o.op
  | .call c => match c.callee, c.args.toList, c.argTypes.toList with
    | .builtin .len, [x], [t] => match cv x, E.ty.get t with
      | some m, some ti => match ti.und with
        | .slice _ => .lenS m
        | _ => .gen o.op
      | _, _ => .gen o.op
    | _, _, _ => .gen o.op
  | _ => .gen o.op

theorem aread_eql {E : Env} {s : St} {e : Operand → Option Value} {dst : Option Tmp} {ty t yt : TypeId} {pos : String} {aft : Array Edge} {gd : Option (Nat × Bool)} {x y : Operand} {u v : Value} (hx : e x = some u) (hy : e y = some v) :
    aread E e ⟨dst, .binOp .eql t x y yt, ty, pos, aft, gd⟩ s = match eqv0 E s t u v with
      | some r => some (Value.bool r)
      | none => none := by
  simp only [aread, hx, hy]
  cases u <;> first | rfl | (cases v <;> rfl)

theorem aread_neq {E : Env} {s : St} {e : Operand → Option Value} {dst : Option Tmp} {ty t yt : TypeId} {pos : String} {aft : Array Edge} {gd : Option (Nat × Bool)} {x y : Operand} {u v : Value} (hx : e x = some u) (hy : e y = some v) :
    aread E e ⟨dst, .binOp .neq t x y yt, ty, pos, aft, gd⟩ s = match eqv0 E s t u v with
      | some r => some (Value.bool (!r))
      | none => none := by
  simp only [aread, hx, hy]
  cases u <;> first | rfl | (cases v <;> rfl)

theorem compI_ok {E : Env} {o : Oper} {ρ : Rho} {nm : Option Nat} {s : St} {r : Value × St} (h : (compI E o).run E ρ nm s = some r) : opRun E (evO ρ) o nm s = some r := by
  obtain ⟨dst, op, ty, pos, aft, gd⟩ := o
  unfold compI at h
  cases op <;> try exact h
  case move x =>
    simp only at h
    split at h
    · rename_i m hm; simp only [opRun, cls, apure, cv_ev hm]; exact h
    · exact h
  case assign x =>
    simp only at h
    split at h
    · rename_i m hm; simp only [opRun, cls, apure, cv_ev hm]; exact h
    · exact h
  case pick c x y =>
    simp only at h
    split at h
    · rename_i mc mx my hc hx hy
      simp only [MI.run] at h
      simp only [opRun, cls, apure, cv_ev hc, cv_ev hx, cv_ev hy]
      split at h
      · rename_i t ht; rw [ht]; exact h
      · cases h
    · exact h
  case nilCheck x =>
    simp only at h
    split at h
    · rename_i m hm
      simp only [MI.run] at h
      simp only [opRun, cls, apure, cv_ev hm]
      split at h
      · rename_i a ha; rw [ha]; exact h
      · cases h
    · exact h
  case unOp op t x =>
    cases op <;> try exact h
    simp only at h
    split at h
    · rename_i m hm
      simp only [MI.run] at h
      simp only [opRun, cls, apure, cv_ev hm]
      split at h
      · rename_i a ha; rw [ha]; exact h
      · cases h
    · exact h
  case binOp op t x y yt =>
    simp only at h
    split at h
    · rename_i mx my ti hx hy ht
      cases hn : isNum ti.und with
      | false =>
        rw [hn] at h
        simp only [cond_false] at h
        cases hi : isInt ti.und with
        | true => rw [hi] at h; exact h
        | false =>
          rw [hi] at h
          simp only [cond_false] at h
          split at h
          · simp only [MI.run] at h
            simp only [opRun, cls, ht, hi, cond_false, aread_eql (cv_ev hx ρ) (cv_ev hy ρ)]
            cases he : eqv0 E s t (mx.ev ρ) (my.ev ρ) with
            | none => rw [he] at h; cases h
            | some r => rw [he] at h; exact h
          · simp only [MI.run] at h
            simp only [opRun, cls, ht, hi, cond_false, aread_neq (cv_ev hx ρ) (cv_ev hy ρ)]
            cases he : eqv0 E s t (mx.ev ρ) (my.ev ρ) with
            | none => rw [he] at h; cases h
            | some r => rw [he] at h; exact h
          · exact h
      | true =>
        rw [hn] at h
        simp only [cond_true, MI.run] at h
        have hi : isInt ti.und = true := by revert hn; cases ti.und <;> simp [isNum, isInt]
        simp only [opRun, cls, ht, hi, cond_true, apure, cv_ev hx, cv_ev hy]
        cases hu : mx.ev ρ <;> (try (rw [hu] at h; simp only [binV] at h; cases h; done))
        cases hv : my.ev ρ <;> (try (rw [hu, hv] at h; simp only [binV] at h; cases h; done))
        rw [hu, hv] at h
        exact h
    · exact h
  case build t parts =>
    simp only at h
    split at h
    · rename_i ti ht
      split at h
      · rename_i fs hfs
        cases hk : known E fs.toList with
        | false => rw [hk] at h; exact h
        | true =>
          rw [hk] at h
          simp only [cond_true] at h
          split at h
          · rename_i ps hps
            obtain ⟨vs, h1, h2⟩ := resP_ok (ρ := ρ) hps
            simp only [MI.run] at h
            simp only [opRun, cls, apure, h1, ht, hfs, hk, cond_true, h2]
            cases hb : bldV ρ ti.zero ps with
            | none => rw [hb] at h; cases h
            | some c => rw [hb] at h; exact h
          · exact h
      · exact h
    · exact h
  case fieldAddr t x i =>
    simp only at h
    split at h
    · rename_i m ti hm ht
      split at h
      · rename_i fs hfs
        split at h
        · rename_i f hf
          split at h
          · rename_i tf htf
            cases hz : Nat.beq tf.size 0 with
            | true => rw [hz] at h; exact h
            | false =>
              rw [hz] at h
              simp only [cond_false, MI.run] at h
              simp only [opRun, cls, apure, cv_ev hm, ht, hfs, hf, htf]
              split at h
              · rename_i b o' hb; rw [hb]; simp only [hfs, hf, htf, hz, Option.isSome_none, Bool.or_self, cond_false]; exact h
              · cases h
          · exact h
        · exact h
      · exact h
    · exact h
  case field t x i =>
    simp only at h
    split at h
    · rename_i m ti hm ht
      split at h
      · rename_i fs hfs
        split at h
        · rename_i f hf
          split at h
          · rename_i tf htf
            simp only [MI.run] at h
            simp only [opRun, cls, apure, cv_ev hm, ht, hfs, hf, htf]
            split at h
            · rename_i cs hb; rw [hb]; simp only [hfs, hf, htf, partAt_cut]; exact h
            · cases h
          · exact h
        · exact h
      · exact h
    · exact h
  case indexAddr t x i =>
    simp only at h
    split at h
    · rename_i mx mi ti hx hi ht
      split at h
      · rename_i e he
        split at h
        · rename_i te hte
          simp only [MI.run] at h
          simp only [opRun, cls, apure, cv_ev hx, cv_ev hi, ht]
          split at h
          · rename_i b o' len cap k n hb hn
            rw [hb, hn]; simp only [he, hte]
            split at h
            · rename_i hc; simp only [hc, and_self, if_true]; exact h
            · cases h
          · cases h
        · exact h
      · exact h
    · exact h
  case load t x =>
    simp only at h
    split at h
    · rename_i m ti hm ht
      simp only [MI.run] at h
      simp only [opRun, cls, aread, cv_ev hm]
      split at h
      · rename_i b o' hb
        rw [hb]; simp only [aload, ht]
        split at h
        · rename_i cs x1 x2 hg
          rw [hg]; simp only [Option.isSome_none, cond_false, partAt_cut]; exact h
        · cases h
      · cases h
    · exact h
  case store t x v =>
    simp only at h
    split at h
    · rename_i mx mv ti hx hv ht
      simp only [MI.run] at h
      simp only [opRun, cls, achain, cv_ev hx, cv_ev hv]
      split at h
      · rename_i b o' hb
        rw [hb]; simp only [astore, ht, writable]
        split at h
        · rename_i cs esz hg
          rw [hg]; simp only [Option.isNone_none, Bool.and_true]
          cases hc : (sizeIs ti.size (cellsOf (mv.ev ρ)) && allV isCell (cellsOf (mv.ev ρ))) with
          | false => rw [hc] at h; cases h
          | true =>
            rw [hc] at h
            simp only [cond_true] at h ⊢
            split at h
            · rename_i c hs; rw [hs]; exact h
            · cases h
        · cases h
      · cases h
    · exact h
  case alloc t =>
    simp only at h
    split at h
    · rename_i ti ht
      simp only [MI.run] at h
      simp only [opRun, cls, aalloc, ht]
      exact h
    · exact h
  case box t x =>
    simp only at h
    split at h
    · rename_i m hm
      simp only [MI.run] at h
      simp only [opRun, cls, aalloc, cv_ev hm]
      exact h
    · exact h
  case extract x i =>
    simp only at h
    split at h
    · rename_i m hm
      simp only [MI.run] at h
      simp only [opRun, cls, apure, cv_ev hm]
      split at h
      · rename_i a ha; rw [ha]; exact h
      · cases h
    · exact h
  case convert s' d x =>
    simp only at h
    split at h
    · rename_i m ts td hm hs hd
      split at h
      · rename_i k1 k hk1 hk
        simp only [MI.run] at h
        simp only [opRun, cls, hs, hd, hk1, hk, apure, cv_ev hm]
        split at h
        · rename_i k' n hn; rw [hn]; exact h
        · cases h
      · exact h
    · exact h
  case call c =>
    simp only at h
    split at h
    · rename_i x t hc ha hta
      split at h
      · rename_i m ti hm ht
        split at h
        · rename_i e he
          simp only [MI.run] at h
          simp only [opRun, cls, hc, clsB, aread, ha, hta, evalL, cv_ev hm, ht, he]
          split at h
          · rename_i b n cap hb; rw [hb]; exact h
          · cases h
        · exact h
      · exact h
    · exact h

/-! ### calls, lists of steps -/
inductive MAct where
  | i (m : MI)
  | call (f : MV) (args : List MV)
  /-- What was read stands yet. -/
  | chk (m : MI) (d : Nat)

structure MOp where
  dst : Option Nat
  act : MAct
  gd : Option (Nat × Bool)
  nm : Option Nat

def updR (ρ : Rho) : Option Nat → Value → Rho
  | none, _ => ρ
  | some d, v => fun t => if t = d then v else ρ t

/-- What comes behind a step's outcome. -/
def runK (r : Option (Value × St)) (K : Value → St → Prop) : Prop :=
  match r with
  | some (v, s) => K v s
  | none => False

/-- A call of a function's value. -/
def callV (E : Env) (f : Value) (args : List Value) (s : St) (K : Value → St → Prop) : Prop :=
  match f with
  | .func (.func g) first captured => WC E g (first.toList ++ args ++ captured.toList) s K
  | _ => False

/-- What was read before stands yet. -/
def chkK (r : Option (Value × St)) (v : Value) (P : Prop) : Prop :=
  match r with
  | some (u, _) => sameV u v = true ∧ P
  | none => False

/-- A branch. -/
def condK (v : Value) (P Q : Prop) : Prop :=
  match v with
  | .bool b => (b = true → P) ∧ (b = false → Q)
  | _ => False

def wantV (v : Value) (w : Bool) : Bool :=
  match v with
  | .bool b => b == w
  | _ => false

/-- If so, and if not. -/
def gdK (v : Value) (w : Bool) (P Q : Prop) : Prop := (wantV v w = true → P) ∧ (wantV v w = false → Q)

def MAct.go (E : Env) (nm : Option Nat) (ρ : Rho) (s : St) (K : Value → St → Prop) : MAct → Prop
  | .i m => runK (m.run E ρ nm s) K
  | .call f args => callV E (f.ev ρ) (args.map (·.ev ρ)) s K
  | .chk m d => chkK (m.run E ρ none s) (ρ d) (K undef s)

def MOp.go (E : Env) (base : Nat) (ρ : Rho) (s : St) (Q : Rho → St → Prop) (o : MOp) : Prop :=
  match o.gd with
  | none => o.act.go E (o.nm.map (base + ·)) ρ s (fun v s' => Q (updR ρ o.dst v) s')
  | some (d, w) => gdK (ρ d) w (o.act.go E (o.nm.map (base + ·)) ρ s (fun v s' => Q (updR ρ o.dst v) s')) (Q (updR ρ o.dst undef) s)

def mops (E : Env) (base : Nat) : List MOp → Rho → St → (Rho → St → Prop) → Prop
  | [], ρ, s, Q => Q ρ s
  | o :: rest, ρ, s, Q => o.go E base ρ s (fun ρ' s' => mops E base rest ρ' s' Q)

inductive MC where
  | skip
  | seq (x y : MC)
  | cond (c : MV) (x y : MC)
  | block (id : Nat) (c : MC)
  | loop (c : MC)
  | exit (id : Nat)
  | ret
  | ops (l : List MOp)
  | draw (n : Nat) (l : List MOp)

abbrev Post3 := Ex → Rho → St → Prop

def thenM (k : Rho → St → Prop) (Q : Post3) (e : Ex) (ρ : Rho) (s : St) : Prop :=
  match e with
  | .normal => k ρ s
  | e => Q e ρ s

def blockM (id : Nat) (Q : Post3) (e : Ex) (ρ : Rho) (s : St) : Prop :=
  match e with
  | .exit j => if j = id then Q .normal ρ s else Q (.exit j) ρ s
  | e => Q e ρ s

def loopN (body : Rho → St → Post3 → Prop) : Nat → Rho → St → Post3 → Prop
  | 0, _, _, _ => False
  | k + 1, ρ, s, Q => body ρ s (thenM (fun ρ' s' => loopN body k ρ' s' Q) Q)

def loopM (body : Rho → St → Post3 → Prop) (ρ : Rho) (s : St) (Q : Post3) : Prop := ∃ k, loopN body k ρ s Q

def MW (E : Env) : MC → Rho → St → Post3 → Prop
  | .skip, ρ, s, Q => Q .normal ρ s
  | .seq x y, ρ, s, Q => MW E x ρ s (thenM (fun ρ' s' => MW E y ρ' s' Q) Q)
  | .cond c x y, ρ, s, Q => condK (c.ev ρ) (MW E x ρ s Q) (MW E y ρ s Q)
  | .block id c, ρ, s, Q => MW E c ρ s (blockM id Q)
  | .loop c, ρ, s, Q => loopM (MW E c) ρ s Q
  | .exit id, ρ, s, Q => Q (.exit id) ρ s
  | .ret, ρ, s, Q => Q .ret ρ s
  | .ops l, ρ, s, Q => mops E 0 l ρ s (Q .normal)
  | .draw n l, ρ, s, Q => mops E s.next l ρ { s with next := s.next + n } (Q .normal)

/-! ### from the program's code -/
def gdOf (ops : List Oper) (n : Nat) : Option (Nat × Bool) → Option (Option (Nat × Bool))
  | none => some none
  | some (j, w) => match ops[j]? with
    | some oj => match oj.dst with
      | some d => cond (Nat.blt d n) (some (some (d, w))) none
      | none => none
    | none => none

def dstOk (n : Nat) : Option Nat → Bool
  | none => true
  | some d => Nat.blt d n

def cvL : List Operand → Option (List MV)
  | [] => some []
  | x :: xs => match cv x, cvL xs with
    | some m, some ms => some (m :: ms)
    | _, _ => none

def compO (E : Env) (ops : List Oper) (n : Nat) (nm : Option Nat) (o : Oper) : Option MOp :=
  cond (dstOk n o.dst) (match gdOf ops n o.guard with
    | some g => match cls E o.op with
      | .call => match o.op with
        | .call c => match c.callee with
          | .value f => match cv f, cvL c.args.toList with
            | some mf, some ms => some ⟨o.dst, .call mf ms, g, nm⟩
            | _, _ => none
          | _ => none
        | _ => none
      | .dfr => none
      | .bad => none
      | _ => some ⟨o.dst, .i (compI E o), g, nm⟩
    | none => none) none

def compOps (E : Env) (ops : List Oper) (n : Nat) : List Oper → Option (List MOp)
  | [] => some []
  | o :: rest => match compO E ops n none o, compOps E ops n rest with
    | some m, some ms => some (m :: ms)
    | _, _ => none

def compAgain (E : Env) (ops : List Oper) (n : Nat) : List Nat → Option (List MOp)
  | [] => some []
  | r :: rest => match ops[r]? with
    | some o => match gdOf ops n o.guard, o.dst, compAgain E ops n rest with
      | some g, some d, some ms => match cls E o.op with
        | .read => some (⟨none, .chk (compI E o) d, g, none⟩ :: ms)
        | _ => none
      | _, _, _ => none
    | none => none

def compPlan (E : Env) (ops : List Oper) (n : Nat) : List PStep → Option (List MOp)
  | [] => some []
  | p :: rest => match ops[p.i]? with
    | some o => match compO E ops n (some p.i) o, compAgain E ops n p.again, compPlan E ops n rest with
      | some m, some cs, some ms => some (m :: (cs ++ ms))
      | _, _, _ => none
    | none => none

def compC (E : Env) (f : Nat) (n : Nat) : Code → Option MC
  | .skip => some .skip
  | .label _ => some .skip
  | .seq x y => match compC E f n x, compC E f n y with
    | some a, some b => some (.seq a b)
    | _, _ => none
  | .cond c x y => match cv c, compC E f n x, compC E f n y with
    | some m, some a, some b => some (.cond m a b)
    | _, _, _ => none
  | .block id c => match compC E f n c with
    | some a => some (.block id a)
    | none => none
  | .loop c => match compC E f n c with
    | some a => some (.loop a)
    | none => none
  | .exit id => some (.exit id)
  | .ret => some .ret
  | .region id ops draw => cond draw
    (match E.plan f id with
     | some pl => match compPlan E ops.toList n pl with
       | some l => some (.draw ops.toList.length l)
       | none => none
     | none => none)
    (match compOps E ops.toList n ops.toList with
     | some l => some (.ops l)
     | none => none)
  | _ => none

/-! ### it is so -/
theorem runK_iff {r : Option (Value × St)} {K : Value → St → Prop} : runK r K ↔ ∃ v s, r = some (v, s) ∧ K v s := by
  unfold runK
  constructor
  · split
    · rename_i v s; exact fun h => ⟨v, s, rfl, h⟩
    · exact fun h => h.elim
  · rintro ⟨v, s, rfl, h⟩; exact h

theorem condK_iff {v : Value} {P Q : Prop} : condK v P Q ↔ ∃ b, v = .bool b ∧ (b = true → P) ∧ (b = false → Q) := by
  unfold condK
  constructor
  · split
    · rename_i b; exact fun h => ⟨b, rfl, h⟩
    · exact fun h => h.elim
  · rintro ⟨b, rfl, h⟩; exact h

theorem callV_iff {E : Env} {f : Value} {args : List Value} {s : St} {K : Value → St → Prop} : callV E f args s K ↔ ∃ g first captured, f = .func (.func g) first captured ∧ WC E g (first.toList ++ args ++ captured.toList) s K := by
  unfold callV
  constructor
  · split
    · rename_i g u v; exact fun h => ⟨g, u, v, rfl, h⟩
    · exact fun h => h.elim
  · rintro ⟨g, u, v, rfl, h⟩; exact h

theorem chkK_iff {r : Option (Value × St)} {v : Value} {P : Prop} : chkK r v P ↔ ∃ u s, r = some (u, s) ∧ sameV u v = true ∧ P := by
  unfold chkK
  constructor
  · split
    · rename_i u s; exact fun h => ⟨u, s, rfl, h⟩
    · exact fun h => h.elim
  · rintro ⟨u, s, rfl, h⟩; exact h

structure AAR (a : AA) (ρ : Rho) (n : Nat) : Prop where
  n : a.n = n
  df : a.df = []
  look : ∀ t, a.look t = ρ t

theorem AAR.eval {a : AA} {ρ : Rho} {n : Nat} (h : AAR a ρ n) : a.eval = evO ρ := by
  funext x
  cases x with
  | tmp t => show some (a.look t) = some (ρ t); rw [h.look]
  | _ => rfl

theorem AAR.put {a : AA} {ρ : Rho} {n : Nat} (h : AAR a ρ n) {dst : Option Nat} (hd : dstOk n dst = true) (v : Value) : ∃ a', a.put dst v = some a' ∧ AAR a' (updR ρ dst v) n := by
  cases dst with
  | none => exact ⟨a, rfl, h⟩
  | some d =>
    have hd : Nat.blt d a.n = true := by rw [h.n]; exact hd
    refine ⟨{ a with tm := a.tm.set d v }, by simp only [AA.put, hd, cond_true], h.n, h.df, fun t => ?_⟩
    show (((a.tm.set d v).get t).getD undef) = if t = d then v else ρ t
    rw [Tr.get_set]
    by_cases e : t = d
    · simp [e]
    · rw [if_neg e, if_neg e]; exact h.look t

def wantM (ρ : Rho) : Option (Nat × Bool) → Bool
  | none => true
  | some (d, w) => wantV (ρ d) w

theorem gdOf_wanted {ops : List Oper} {n : Nat} {o : Oper} {g : Option (Nat × Bool)} (h : gdOf ops n o.guard = some g) {a : AA} {ρ : Rho} (ha : AAR a ρ n) :
    wantedA ops o a = wantM ρ g := by
  unfold wantedA
  cases hg : o.guard with
  | none => rw [hg] at h; cases h; rfl
  | some p =>
    obtain ⟨j, w⟩ := p
    rw [hg] at h
    unfold gdOf at h
    simp only at h ⊢
    cases hj : ops[j]? with
    | none => rw [hj] at h; cases h
    | some oj =>
      rw [hj] at h
      simp only at h ⊢
      cases hd : oj.dst with
      | none => rw [hd] at h; cases h
      | some d =>
        rw [hd] at h
        simp only at h ⊢
        cases hb : Nat.blt d n with
        | false => rw [hb] at h; cases h
        | true =>
          rw [hb] at h
          cases h
          rw [ha.n, hb, ha.look]
          rfl

theorem cvL_ev {l : List Operand} {ms : List MV} (h : cvL l = some ms) (ρ : Rho) : evalL (evO ρ) l = some (ms.map (·.ev ρ)) := by
  induction l generalizing ms with
  | nil => cases h; rfl
  | cons x xs ih =>
    unfold cvL at h
    split at h
    · rename_i m ms' hm hms
      cases h
      unfold evalL
      rw [cv_ev hm ρ, ih hms]
      rfl
    · cases h

theorem step_of_run {E : Env} {x : CallF} {ops : List Oper} {o : Oper} {nm : Option Nat} {a a' : AA} {s s' : St} {v : Value} (hw : wantedA ops o a = true)
    (h : opRun E a.eval o nm s = some (v, s')) (hp : a.put o.dst v = some a') : step1 E x ops o nm a s = some (a', s') := by
  unfold opRun at h
  unfold step1
  rw [hw]
  simp only [cond_true]
  cases hc : cls E o.op <;> rw [hc] at h <;> simp only at h ⊢
  case pure =>
    split at h
    · rename_i u hu; cases h; rw [hu]; simp only; rw [hp]
    · cases h
  case read =>
    split at h
    · rename_i u hu; cases h; rw [hu]; simp only; rw [hp]
    · cases h
  case alloc =>
    split at h
    · rename_i ob f hu
      rw [hu]
      cases nm with
      | some n => cases h; simp only; rw [hp]
      | none => cases h; simp only; rw [hp]
    · cases h
  case chain =>
    rw [h]; simp only; rw [hp]
  all_goals cases h

theorem step_unwanted {E : Env} {x : CallF} {ops : List Oper} {o : Oper} {nm : Option Nat} {a a' : AA} {s : St} (hw : wantedA ops o a = false)
    (hp : a.put o.dst undef = some a') : step1 E x ops o nm a s = some (a', s) := by
  unfold step1
  rw [hw]
  simp only [cond_false]
  rw [hp]

theorem compO_ok {E : Env} {ops : List Oper} {n : Nat} {nm : Option Nat} {o : Oper} {m : MOp} (h : compO E ops n nm o = some m) {base : Nat} {ρ : Rho} {a : AA} (ha : AAR a ρ n) {s : St} {Q : Rho → St → Prop}
    (hm : m.go E base ρ s Q) : WS E ops o (nm.map (base + ·)) a s (fun a' s' => ∃ ρ', AAR a' ρ' n ∧ Q ρ' s') := by
  unfold compO at h
  cases hd : dstOk n o.dst with
  | false => rw [hd] at h; cases h
  | true =>
    rw [hd] at h
    simp only [cond_true] at h
    cases hg : gdOf ops n o.guard with
    | none => rw [hg] at h; cases h
    | some g =>
      rw [hg] at h
      simp only at h
      have hw := gdOf_wanted hg ha
      -- what is done if it is wanted
      have key : ∀ act, m = ⟨o.dst, act, g, nm⟩ → (wantedA ops o a = true → act.go E (nm.map (base + ·)) ρ s (fun v s' => Q (updR ρ o.dst v) s') → WS E ops o (nm.map (base + ·)) a s (fun a' s' => ∃ ρ', AAR a' ρ' n ∧ Q ρ' s')) →
          WS E ops o (nm.map (base + ·)) a s (fun a' s' => ∃ ρ', AAR a' ρ' n ∧ Q ρ' s') := by
        intro act hm' hk
        subst hm'
        unfold MOp.go at hm
        cases g with
        | none => exact hk (by rw [hw]; rfl) hm
        | some p =>
          obtain ⟨d, w⟩ := p
          have no : wantedA ops o a = false → Q (updR ρ o.dst undef) s → WS E ops o (nm.map (base + ·)) a s (fun a' s' => ∃ ρ', AAR a' ρ' n ∧ Q ρ' s') := by
            intro hw hq
            obtain ⟨a', hp, ha'⟩ := ha.put hd undef
            exact ⟨0, a', s, step_unwanted hw hp, _, ha', hq⟩
          simp only at hm
          obtain ⟨h1, h2⟩ := hm
          simp only [wantM] at hw
          cases hv : wantV (ρ d) w with
          | true => exact hk (hw.trans hv) (h1 hv)
          | false => exact no (hw.trans hv) (h2 hv)
      have plain : ∀ mi, m = ⟨o.dst, .i (compI E o), g, nm⟩ → mi = compI E o → WS E ops o (nm.map (base + ·)) a s (fun a' s' => ∃ ρ', AAR a' ρ' n ∧ Q ρ' s') := by
        intro mi hm' _
        refine key _ hm' fun hw hgo => ?_
        obtain ⟨v, s', hr, hq⟩ := runK_iff.1 hgo
        obtain ⟨a', hp, ha'⟩ := ha.put hd v
        have := compI_ok hr
        rw [← ha.eval] at this
        exact ⟨0, a', s', step_of_run hw this hp, _, ha', hq⟩
      cases hc : cls E o.op <;> rw [hc] at h <;> simp only at h
      case call =>
        cases ho : o.op <;> rw [ho] at h <;> simp only at h <;> try (cases h; done)
        rename_i c
        cases hcc : c.callee <;> rw [hcc] at h <;> simp only at h <;> try (cases h; done)
        rename_i f
        split at h
        · rename_i mf ms hf hms
          refine key _ (Option.some.inj h).symm fun hw hgo => ?_
          obtain ⟨g', first, captured, hfe, k, v, s', hk, hq⟩ := callV_iff.1 hgo
          obtain ⟨a', hp, ha'⟩ := ha.put hd v
          refine ⟨k, a', s', ?_, _, ha', hq⟩
          unfold step1
          rw [hw, hc, ho]
          simp only [cond_true]
          have : callee a.eval c = some (g', first.toList ++ ms.map (·.ev ρ) ++ captured.toList) := by
            unfold callee
            simp only [hcc, ha.eval, cv_ev hf ρ, hfe, cvL_ev hms ρ]
          rw [this]
          simp only
          rw [hk]
          simp only
          rw [hp]
        · cases h
      case dfr => cases h
      case bad => cases h
      all_goals exact plain _ (Option.some.inj h).symm rfl

theorem mops_append {E : Env} {base : Nat} {l1 l2 : List MOp} {ρ : Rho} {s : St} {Q : Rho → St → Prop} : mops E base (l1 ++ l2) ρ s Q = mops E base l1 ρ s (fun ρ' s' => mops E base l2 ρ' s' Q) := by
  induction l1 generalizing ρ s with
  | nil => rfl
  | cons o rest ih =>
    show o.go E base ρ s (fun ρ' s' => mops E base (rest ++ l2) ρ' s' Q) = o.go E base ρ s _
    congr 1
    funext ρ' s'
    exact ih

theorem compOps_ok {E : Env} {ops : List Oper} {n : Nat} {base : Nat} : ∀ {rest : List Oper} {l : List MOp}, compOps E ops n rest = some l → ∀ {ρ : Rho} {a : AA}, AAR a ρ n → ∀ {s : St} {Q : Rho → St → Prop},
    mops E base l ρ s Q → WO E ops rest a s (fun a' s' => ∃ ρ', AAR a' ρ' n ∧ Q ρ' s')
  | [], l, h, ρ, a, ha, s, Q, hm => by cases h; exact WO_nil.2 ⟨ρ, ha, hm⟩
  | o :: rest, l, h, ρ, a, ha, s, Q, hm => by
    unfold compOps at h
    split at h
    · rename_i m ms h1 h2
      cases h
      obtain ⟨k, a', s', h3, ρ', h4, h5⟩ := compO_ok (base := base) h1 ha hm
      exact WO_cons.2 ⟨k, a', s', h3, compOps_ok h2 h4 h5⟩
    · cases h

theorem compAgain_ok {E : Env} {ops : List Oper} {n : Nat} {base : Nat} : ∀ {l : List Nat} {ms : List MOp}, compAgain E ops n l = some ms → ∀ {ρ : Rho} {a : AA}, AAR a ρ n → ∀ {s : St} {Q : Rho → St → Prop},
    mops E base ms ρ s Q → againOk E ops a s l = true ∧ Q ρ s
  | [], ms, h, ρ, a, ha, s, Q, hm => by cases h; exact ⟨rfl, hm⟩
  | r :: rest, ms, h, ρ, a, ha, s, Q, hm => by
    unfold compAgain at h
    split at h
    · rename_i o ho
      split at h
      · rename_i g d ms' hg hd hms
        split at h
        · rename_i hc
          cases h
          have hw := gdOf_wanted hg ha
          unfold mops MOp.go at hm
          simp only at hm
          unfold againOk
          rw [ho]
          simp only
          have yes : wantedA ops o a = true → chkK ((compI E o).run E ρ none s) (ρ d) (mops E base ms' ρ s Q) → (cond (wantedA ops o a)
              (match aread E a.eval o s, o.dst with
                | some v, some d => sameV v (a.look d)
                | _, _ => false) true && againOk E ops a s rest) = true ∧ Q ρ s := by
            intro hw hk
            obtain ⟨v, s', hv, hs, hm⟩ := chkK_iff.1 hk
            have hv : aread E (evO ρ) o s = some v := by
              have := compI_ok hv
              unfold opRun at this
              rw [hc] at this
              simp only at this
              split at this
              · rename_i u hu; cases this; exact hu
              · cases this
            obtain ⟨h1, h2⟩ := compAgain_ok hms ha hm
            rw [hw]
            simp only [cond_true, ha.eval, hv, hd, ha.look, hs, h1, Bool.and_self]
            exact ⟨trivial, h2⟩
          have no : wantedA ops o a = false → mops E base ms' ρ s Q → (cond (wantedA ops o a)
              (match aread E a.eval o s, o.dst with
                | some v, some d => sameV v (a.look d)
                | _, _ => false) true && againOk E ops a s rest) = true ∧ Q ρ s := by
            intro hw hm
            obtain ⟨h1, h2⟩ := compAgain_ok hms ha hm
            rw [hw]
            simp only [cond_false, h1, Bool.and_self]
            exact ⟨trivial, h2⟩
          cases g with
          | none => exact yes hw hm
          | some p =>
            obtain ⟨d', w⟩ := p
            simp only at hm
            obtain ⟨h1, h2⟩ := hm
            simp only [wantM] at hw
            cases hv : wantV (ρ d') w with
            | true => exact yes (hw.trans hv) (h1 hv)
            | false => exact no (hw.trans hv) (h2 hv)
        · cases h
      · cases h
    · cases h

theorem compPlan_ok {E : Env} {ops : List Oper} {n : Nat} {base : Nat} : ∀ {pl : List PStep} {l : List MOp}, compPlan E ops n pl = some l → ∀ {ρ : Rho} {a : AA}, AAR a ρ n → ∀ {s : St} {Q : Rho → St → Prop},
    mops E base l ρ s Q → WP E ops base pl a s (fun a' s' => ∃ ρ', AAR a' ρ' n ∧ Q ρ' s')
  | [], l, h, ρ, a, ha, s, Q, hm => by cases h; exact WP_nil.2 ⟨ρ, ha, hm⟩
  | p :: rest, l, h, ρ, a, ha, s, Q, hm => by
    unfold compPlan at h
    split at h
    · rename_i o ho
      split at h
      · rename_i m cs ms h1 hcs h2
        cases h
        obtain ⟨k, a', s', h3, ρ', h4, h5⟩ := compO_ok (base := base) h1 ha hm
        rw [mops_append] at h5
        obtain ⟨h6, h7⟩ := compAgain_ok hcs h4 h5
        exact WP_cons.2 ⟨o, ho, k, a', s', h3, h6, compPlan_ok h2 h4 h7⟩
      · cases h
    · cases h

theorem comp_ok {E : Env} {f : Nat} {n : Nat} : ∀ {c : Code} {m : MC}, compC E f n c = some m → ∀ {ρ : Rho} {a : AA}, AAR a ρ n → ∀ {s : St} {Q : Post3},
    MW E m ρ s Q → W E f c a s (fun e a' s' => ∃ ρ', AAR a' ρ' n ∧ Q e ρ' s') := by
  intro c
  induction c with
  | skip => intro m h ρ a ha s Q hm; cases h; exact W_skip.2 ⟨ρ, ha, hm⟩
  | label l => intro m h ρ a ha s Q hm; cases h; exact W_label.2 ⟨ρ, ha, hm⟩
  | exit i => intro m h ρ a ha s Q hm; cases h; exact W_exit.2 ⟨ρ, ha, hm⟩
  | ret => intro m h ρ a ha s Q hm; cases h; exact W_ret.2 ⟨ρ, ha, hm⟩
  | seq x y ihx ihy =>
    intro m h ρ a ha s Q hm
    unfold compC at h
    split at h
    · rename_i mx my h1 h2
      cases h
      refine W_seq.2 ((ihx h1 ha hm).mono ?_)
      rintro e a' s' ⟨ρ', h3, h4⟩
      cases e with
      | normal => exact ihy h2 h3 h4
      | exit i => exact ⟨ρ', h3, h4⟩
      | ret => exact ⟨ρ', h3, h4⟩
    · cases h
  | cond c x y ihx ihy =>
    intro m h ρ a ha s Q hm
    unfold compC at h
    split at h
    · rename_i mc mx my h0 h1 h2
      cases h
      obtain ⟨b, hb, h3, h4⟩ := condK_iff.1 hm
      exact W_cond.2 ⟨b, by rw [ha.eval, cv_ev h0 ρ, hb], fun h => ihx h1 ha (h3 h), fun h => ihy h2 ha (h4 h)⟩
    · cases h
  | block id c ih =>
    intro m h ρ a ha s Q hm
    unfold compC at h
    split at h
    · rename_i mc h1
      cases h
      refine W_block.2 ((ih h1 ha hm).mono ?_)
      rintro e a' s' ⟨ρ', h3, h4⟩
      cases e with
      | normal => exact ⟨ρ', h3, h4⟩
      | ret => exact ⟨ρ', h3, h4⟩
      | exit j =>
        show cond (Nat.beq j id) _ _
        have h4 : if j = id then Q .normal ρ' s' else Q (.exit j) ρ' s' := h4
        by_cases hj : j = id
        · rw [if_pos hj] at h4; rw [nat_beq_eq, decide_eq_true hj]; exact ⟨ρ', h3, h4⟩
        · rw [if_neg hj] at h4; rw [nat_beq_eq, decide_eq_false hj]; exact ⟨ρ', h3, h4⟩
    · cases h
  | loop c ih =>
    intro m h ρ a ha s Q hm
    unfold compC at h
    split at h
    · rename_i mc h1
      cases h
      obtain ⟨k, hk⟩ := hm
      induction k generalizing ρ a s with
      | zero => cases hk
      | succ k ihk =>
        refine W_loop.2 ((ih h1 ha hk).mono ?_)
        rintro e a' s' ⟨ρ', h3, h4⟩
        cases e with
        | normal => exact ihk h3 h4
        | exit i => exact ⟨ρ', h3, h4⟩
        | ret => exact ⟨ρ', h3, h4⟩
    · cases h
  | region id ops draw =>
    intro m h ρ a ha s Q hm
    unfold compC at h
    cases draw with
    | true =>
      simp only [cond_true] at h
      split at h
      · rename_i pl hp
        split at h
        · rename_i l hl
          cases h
          exact W_draw.2 ⟨pl, hp, compPlan_ok hl ha hm⟩
        · cases h
      · cases h
    | false =>
      simp only [cond_false] at h
      split at h
      · rename_i l hl
        cases h
        exact W_ops.2 (compOps_ok hl ha hm)
      · cases h
  | _ => intro m h; cases h

/-! ### a function -/
inductive MRes where
  | t (n : Nat)
  | cell (x : Nat) (sz : Option Nat)

def compR (E : Env) : List ResultVar → Option (List MRes)
  | [] => some []
  | .tmp t :: rest => match compR E rest with
    | some l => some (.t t :: l)
    | none => none
  | .cell x t :: rest => match E.ty.get t, compR E rest with
    | some ti, some l => some (.cell x (szOf ti) :: l)
    | _, _ => none

def mres (ρ : Rho) (s : St) : List MRes → Option (List Value)
  | [] => some []
  | .t n :: rest => match mres ρ s rest with
    | some vs => some (ρ n :: vs)
    | none => none
  | .cell x sz :: rest => match ρ x with
    | .pointer (some ⟨b, o, none⟩) => match s.heap.get b with
      | some (.cells cs _ _) => match cut cs o sz, mres ρ s rest with
        | some v, some vs => some (v :: vs)
        | _, _ => none
      | _ => none
    | _ => none

theorem compR_ok {E : Env} {n : Nat} {ρ : Rho} {a : AA} (ha : AAR a ρ n) {s : St} : ∀ {rs : List ResultVar} {l : List MRes} {vs : List Value}, compR E rs = some l → mres ρ s l = some vs → aresults E a s rs = some vs
  | [], l, vs, h, hm => by cases h; cases hm; rfl
  | .tmp t :: rest, l, vs, h, hm => by
    unfold compR at h
    split at h
    · rename_i l' h1
      cases h
      unfold mres at hm
      split at hm
      · rename_i vs' h2
        cases hm
        unfold aresults
        rw [compR_ok ha h1 h2, ha.look]
      · cases hm
    · cases h
  | .cell x t :: rest, l, vs, h, hm => by
    unfold compR at h
    split at h
    · rename_i ti l' ht h1
      cases h
      unfold mres at hm
      split at hm
      · rename_i b o hb
        split at hm
        · rename_i cs x1 x2 hg
          split at hm
          · rename_i v vs' hv h2
            cases hm
            unfold aresults
            rw [ha.look, hb]
            simp only [aload, ht, hg, Option.isSome_none, cond_false, partAt_cut, hv]
            rw [compR_ok ha h1 h2]
          · cases hm
        · cases hm
      · cases hm
    · cases h

def rho0 (args : List Value) : Rho := fun t => (args[t]?).getD undef

theorem ofArgs_rho : ∀ (args : List Value) (i : Nat) (t : Tr Value) (m : Nat), (ofArgs i args t).get m = if i ≤ m ∧ m < i + args.length then args[m - i]? else t.get m
  | [], i, t, m => by
    unfold ofArgs
    rw [if_neg (by simp)]
  | v :: vs, i, t, m => by
    unfold ofArgs
    rw [ofArgs_rho vs (i + 1) _ m, Tr.get_set]
    by_cases h1 : m = i
    · subst h1
      rw [if_neg (by omega), if_pos rfl, if_pos (by simp)]
      simp
    · rw [if_neg h1]
      by_cases h2 : i + 1 ≤ m ∧ m < i + 1 + vs.length
      · rw [if_pos h2, if_pos (by simp; omega)]
        have : m - i = (m - (i + 1)) + 1 := by omega
        rw [this, List.getElem?_cons_succ]
      · rw [if_neg h2, if_neg (by simp; omega)]

/-- A function's code, looked over. -/
structure FnM (E : Env) (g : Nat) (m : MC) (rs : List MRes) (np : Nat) : Prop where
  prim : E.prim g = none
  ok : ∃ fn body, E.fn.get g = some fn ∧ fn.body = some body ∧ compC E g fn.ntmps body = some m ∧ compR E fn.results.toList = some rs ∧ np ≤ fn.ntmps

theorem lenIs_of_le : ∀ {n : Nat} {l : List Value}, l.length ≤ n → lenIs n l = true
  | _, [], _ => by unfold lenIs; rfl
  | 0, _ :: _, h => by simp at h
  | n + 1, _ :: vs, h => by
    unfold lenIs
    exact lenIs_of_le (by simpa using h)

def resK (r : Option (List Value)) (K : Value → Prop) : Prop :=
  match r with
  | some vs => K (oneOr vs)
  | none => False

theorem resK_iff {r : Option (List Value)} {K : Value → Prop} : resK r K ↔ ∃ vs, r = some vs ∧ K (oneOr vs) := by
  unfold resK
  constructor
  · split
    · rename_i vs; exact fun h => ⟨vs, rfl, h⟩
    · exact fun h => h.elim
  · rintro ⟨vs, rfl, h⟩; exact h

def retM (rs : List MRes) (Q : Value → St → Prop) (e : Ex) (ρ : Rho) (s : St) : Prop :=
  match e with
  | .exit _ => False
  | _ => resK (mres ρ s rs) (fun v => Q v s)

theorem WC_fn {E : Env} {g : Nat} {m : MC} {rs : List MRes} {np : Nat} (hf : FnM E g m rs np) {args : List Value} (hl : args.length = np) {s : St} {Q : Value → St → Prop}
    (h : MW E m (rho0 args) s (retM rs Q)) : WC E g args s Q := by
  obtain ⟨fn, body, h1, h2, h3, h4, h5⟩ := hf.ok
  refine WC_body hf.prim h1 h2 (lenIs_of_le (by omega)) ((comp_ok h3 (ρ := rho0 args) ⟨rfl, rfl, fun t => ?_⟩ h).mono ?_)
  · show ((ofArgs 0 args .leaf).get t).getD undef = _
    rw [ofArgs_rho]
    unfold rho0
    by_cases h : t < args.length
    · rw [if_pos (by omega)]; simp
    · rw [if_neg (by omega), List.getElem?_eq_none (by omega)]; rfl
  · rintro e a' s' ⟨ρ', ha, hq⟩
    cases e with
    | exit i => exact hq.elim
    | normal => have hq : resK (mres ρ' s' rs) (fun v => Q v s') := hq; obtain ⟨vs, hv, hq⟩ := resK_iff.1 hq; exact ⟨(fun i h => by cases h), ha.df, vs, compR_ok ha h4 hv, hq⟩
    | ret => have hq : resK (mres ρ' s' rs) (fun v => Q v s') := hq; obtain ⟨vs, hv, hq⟩ := resK_iff.1 hq; exact ⟨(fun i h => by cases h), ha.df, vs, compR_ok ha h4 hv, hq⟩

end Go.Sh
