/-
  A shadow interpreter for the model's operations: the runs. (No program in it.)
-/
import Derived.Test.YtnhofgbjmofcnaaGreatRShV
import Derived.LoopN
import Derived.Tactics
namespace Go.Sh
open Go

variable [Sg : Sig]

/-- No operation of a code puts a call off. -/
def noDfr (E : Env) : Code → Bool
  | .region _ ops _ => ops.toList.all (fun o => !isDf (cls E o.op))
  | .seq a b => noDfr E a && noDfr E b
  | .cond _ a b => noDfr E a && noDfr E b
  | .block _ c => noDfr E c
  | .loop c => noDfr E c
  | _ => true

/-- What is asked of an environment, beyond its parts. -/
def planned (E : Env) (f : Nat) (id : Nat) (ops : Array Oper) : Bool := match E.plan f id with
  | some pl => planB E ops pl
  | none => true

structure Env.Good (E : Env) (P : Program) : Prop where
  ok : E.Ok P
  nodfr : ∀ f fn body, E.fn.get f = some fn → fn.body = some body → noDfr E body = true
  draws : ∀ f fn body, E.fn.get f = some fn → fn.body = some body → Code.drawsOk (planned E f) body = true

def Ex.toExit : Ex → Exit
  | .normal => .normal
  | .exit id => .exit id
  | .ret => .ret

section
variable {E : Env} {P : Program} {ι ι' : Inj} {s s' : St} {w w' : World} {callK : CallK}

/-- One operation in the order of the text. -/
theorem step1_wp (hE : E.Ok P) (hcall : CallsOk P callK) (hen : ∀ g args s r, callK g args s = some r → ∀ as w, (callFunc g as).run P w = .ok (.enter g as) w)
    {ops : Array Oper} {o : Oper} {a a' : AA} (h : step1 E callK ops.toList o none a s = some (a', s')) (hd : cls E o.op ≠ .dfr) {ac : Act} (har : AR ι a ac) (hs : SR ι s w) {K : Act → World → Prop} {Q : Exit → Act → World → Prop}
    (hK : ∀ ι' ac' w', AR ι' a' ac' → Post ι s w ι' s' w' → K ac' w') :
    if Region.wanted o (yielded ops ac.tmps) then o.wp P ac w K Q else K (ac.put o.dst undef) w := by
  have hw := wantedA_eq har ops o
  have hρ := har.eval
  unfold step1 at h
  cases hwa : wantedA ops.toList o a with
  | false =>
    rw [hwa] at h; simp only [cond_false] at h
    rw [if_neg (by rw [← hw, hwa]; simp)]
    cases hp : a.put o.dst undef with
    | none => rw [hp] at h; cases h
    | some a1 => rw [hp] at h; cases h; exact hK ι _ _ (har.put hp (undef_VR ι)) (Post.refl hs)
  | true =>
    rw [hwa] at h; simp only [cond_true] at h
    rw [if_pos (by rw [← hw, hwa])]
    cases hc : cls E o.op <;> rw [hc] at h <;> simp only at h
    case pure =>
      cases hv : apure E a.eval o with
      | none => rw [hv] at h; cases h
      | some v =>
        rw [hv] at h; simp only at h
        cases hp : a.put o.dst v with
        | none => rw [hp] at h; cases h
        | some a1 =>
          rw [hp] at h; cases h
          exact step_wp hE hρ hs (.inl ⟨hc, hv, rfl⟩) fun ι' v' w' g1 g2 => hK ι' _ _ ((har.mono g2.ext).put hp g1) g2
    case read =>
      cases hv : aread E a.eval o s with
      | none => rw [hv] at h; cases h
      | some v =>
        rw [hv] at h; simp only at h
        cases hp : a.put o.dst v with
        | none => rw [hp] at h; cases h
        | some a1 =>
          rw [hp] at h; cases h
          exact step_wp hE hρ hs (.inr (.inl ⟨hc, hv, rfl⟩)) fun ι' v' w' g1 g2 => hK ι' _ _ ((har.mono g2.ext).put hp g1) g2
    case alloc =>
      cases hv : aalloc E a.eval o with
      | none => rw [hv] at h; cases h
      | some r =>
        obtain ⟨ob, f⟩ := r
        rw [hv] at h; simp only at h
        cases hp : a.put o.dst (f s.next) with
        | none => rw [hp] at h; cases h
        | some a1 =>
          rw [hp] at h; cases h
          exact step_wp hE hρ hs (.inr (.inr (.inr ⟨ob, f, hv, rfl, rfl⟩))) fun ι' v' w' g1 g2 => hK ι' _ _ ((har.mono g2.ext).put hp g1) g2
    case chain =>
      cases hv : achain E a.eval o s with
      | none => rw [hv] at h; cases h
      | some r =>
        obtain ⟨v, s1⟩ := r
        rw [hv] at h; simp only at h
        cases hp : a.put o.dst v with
        | none => rw [hp] at h; cases h
        | some a1 =>
          rw [hp] at h; cases h
          exact step_wp hE hρ hs (.inr (.inr (.inl hv))) fun ι' v' w' g1 g2 => hK ι' _ _ ((har.mono g2.ext).put hp g1) g2
    case call =>
      cases ho : o.op <;> rw [ho] at h <;> simp only at h <;> (try (cases h; done))
      rename_i c
      cases hcl : callee a.eval c with
      | none => rw [hcl] at h; cases h
      | some r =>
        obtain ⟨g, args⟩ := r
        rw [hcl] at h; simp only at h
        cases hv : callK g args s with
        | none => rw [hv] at h; cases h
        | some r =>
          obtain ⟨v, s1⟩ := r
          rw [hv] at h; simp only at h
          cases hp : a.put o.dst v with
          | none => rw [hp] at h; cases h
          | some a1 =>
            rw [hp] at h; cases h
            exact call_wp hE hρ hs ho hcall hcl hv (hen g args _ _ hv) fun ι' v' w' g1 g2 => hK ι' _ _ ((har.mono g2.ext).put hp g1) g2
    case dfr => exact absurd hc hd
    case bad => cases h

/-- A row of operations in the order of the text. -/
theorem runOps_wp (hE : E.Ok P) (hcall : CallsOk P callK) (hen : ∀ g args s r, callK g args s = some r → ∀ as w, (callFunc g as).run P w = .ok (.enter g as) w)
    {ops : Array Oper} {Q : Exit → Act → World → Prop} : ∀ {l : List Oper} {a a' : AA} {s s' : St} {ι : Inj} {ac : Act} {w : World}, runOps E callK ops.toList l a s = some (a', s') → (∀ o ∈ l, cls E o.op ≠ .dfr) → AR ι a ac → SR ι s w →
      (∀ ι' ac' w', AR ι' a' ac' → Post ι s w ι' s' w' → Q .normal ac' w') → wpList P ops Q l ac w
  | [], a, a', s, s', ι, ac, w, h, _, har, hs, hQ => by
    simp only [runOps] at h; cases h
    exact hQ ι ac w har (Post.refl hs)
  | o :: rest, a, a', s, s', ι, ac, w, h, hd, har, hs, hQ => by
    simp only [runOps] at h
    cases h1 : step1 E callK ops.toList o none a s with
    | none => rw [h1] at h; cases h
    | some r =>
      obtain ⟨a1, s1⟩ := r
      rw [h1] at h; simp only at h
      refine wpList_step fun K hK => ?_
      refine step1_wp hE hcall hen h1 (hd o (by simp)) har hs fun ι1 ac1 w1 g1 g2 => hK _ _ ?_
      exact runOps_wp hE hcall hen h (fun o' h' => hd o' (by simp [h'])) g1 g2.rel fun ι2 ac2 w2 g3 g4 => hQ ι2 ac2 w2 g3 (g2.trans g4)

omit Sg in
theorem noDfr_of {E : Env} {l : List Oper} (h : l.all (fun o => !isDf (cls E o.op)) = true) : ∀ o ∈ l, cls E o.op ≠ .dfr := by
  intro o ho e
  have := List.all_eq_true.1 h o ho
  rw [e] at this; simp [isDf] at this

end

section
variable {E : Env} {P : Program}

theorem calls_enter (hG : E.Ok P) {k : Nat} {g : FuncId} {args : List Value} {s : St} {r : Value × St} (h : calls E k g args s = some r) : ∀ as w, (callFunc g as).run P w = .ok (.enter g as) w := by
  unfold calls callOf at h
  cases hp : E.prim g with
  | some p => exact (hG.prim g p hp).2
  | none =>
    rw [hp] at h; simp only at h
    unfold callBy at h
    cases hf : E.fn.get g with
    | none => rw [hf] at h; cases h
    | some fn =>
      rw [hf] at h; simp only at h
      cases hb : fn.body with
      | none => rw [hb] at h; cases h
      | some body => exact hG.enter g fn hf (by rw [hb]; rfl)

def ExecOk (E : Env) (P : Program) (k : Nat) : Prop := ∀ f c a s ex a' s', exec E k f c a s = some (ex, a', s') → Code.drawsOk (planned E f) c = true → noDfr E c = true →
  ∀ ι ac w Q, AR ι a ac → SR ι s w → (∀ ι' ac' w', AR ι' a' ac' → Post ι s w ι' s' w' → Q ex.toExit ac' w') → c.wp P Q ac w

def LoopOk (E : Env) (P : Program) (k : Nat) : Prop := ∀ f c a s ex a' s', exec E k f (.loop c) a s = some (ex, a', s') → Code.drawsOk (planned E f) c = true → noDfr E c = true →
  ∀ ι ac w Q, AR ι a ac → SR ι s w → (∀ ι' ac' w', AR ι' a' ac' → Post ι s w ι' s' w' → Q ex.toExit ac' w') → Code.rounds P c Q k ac w

theorem eval_bool {a : AA} {ac : Act} {ι : Inj} (har : AR ι a ac) {c : Operand} {b : Bool} (h : a.eval c = some (.bool b)) : ac.eval c = .bool b := by
  have := har.eval c _ h
  generalize ac.eval c = y at this
  cases this; rfl

theorem exec_ok (hE : E.Ok P) (hcall : ∀ k, ExecOk E P k → CallsOk P (calls E k)) : ∀ k, ExecOk E P k ∧ LoopOk E P k := by
  intro k
  induction k with
  | zero => exact ⟨fun f c a s ex a' s' h => by simp [exec] at h, fun f c a s ex a' s' h => by simp [exec] at h⟩
  | succ k ih =>
    obtain ⟨ih, ihL⟩ := ih
    have hL : LoopOk E P (k + 1) := by
      intro f c a s ex a' s' h hd hn ι ac w Q har hs hQ
      simp only [exec] at h
      rw [rounds_succ]
      cases h1 : exec E k f c a s with
      | none => rw [h1] at h; cases h
      | some r =>
        obtain ⟨ex1, a1, s1⟩ := r
        rw [h1] at h
        refine ih f c a s ex1 a1 s1 h1 hd hn ι ac w _ har hs fun ι1 ac1 w1 g1 g2 => ?_
        cases ex1 with
        | normal =>
          simp only at h
          exact ihL f c a1 s1 ex a' s' h hd hn ι1 ac1 w1 Q g1 g2.rel fun ι2 ac2 w2 g3 g4 => hQ ι2 ac2 w2 g3 (g2.trans g4)
        | exit j => simp only at h; cases h; exact hQ ι1 ac1 w1 g1 g2
        | ret => simp only at h; cases h; exact hQ ι1 ac1 w1 g1 g2
    refine ⟨?_, hL⟩
    intro f c a s ex a' s' h hd hn ι ac w Q har hs hQ
    cases c <;> (try (simp only [exec] at h)) <;> (try (cases h; done))
    case skip => cases h; exact wp_skip (hQ ι ac w har (Post.refl hs))
    case label l => cases h; exact wp_label (hQ ι ac w har (Post.refl hs))
    case exit id => cases h; exact wp_exit (hQ ι ac w har (Post.refl hs))
    case ret => cases h; exact wp_ret (hQ ι ac w har (Post.refl hs))
    case seq x y =>
      simp only [Code.drawsOk, noDfr, Bool.and_eq_true] at hd hn
      cases h1 : exec E k f x a s with
      | none => rw [h1] at h; cases h
      | some r =>
        obtain ⟨ex1, a1, s1⟩ := r
        rw [h1] at h
        refine wp_seq (ih f x a s ex1 a1 s1 h1 hd.1 hn.1 ι ac w _ har hs fun ι1 ac1 w1 g1 g2 => ?_)
        cases ex1 with
        | normal =>
          simp only at h
          exact ih f y a1 s1 ex a' s' h hd.2 hn.2 ι1 ac1 w1 Q g1 g2.rel fun ι2 ac2 w2 g3 g4 => hQ ι2 ac2 w2 g3 (g2.trans g4)
        | exit j => simp only at h; cases h; exact hQ ι1 ac1 w1 g1 g2
        | ret => simp only at h; cases h; exact hQ ι1 ac1 w1 g1 g2
    case cond c x y =>
      simp only [Code.drawsOk, noDfr, Bool.and_eq_true] at hd hn
      cases hc : a.eval c with
      | none => rw [hc] at h; cases h
      | some v =>
        rw [hc] at h
        cases v <;> (try simp only at h) <;> (try (cases h; done))
        rename_i b
        cases b with
        | true => exact wp_cond_true (eval_bool har hc) (ih f x a s ex a' s' h hd.1 hn.1 ι ac w Q har hs hQ)
        | false => exact wp_cond_false (eval_bool har hc) (ih f y a s ex a' s' h hd.2 hn.2 ι ac w Q har hs hQ)
    case block id c =>
      simp only [Code.drawsOk, noDfr] at hd hn
      cases h1 : exec E k f c a s with
      | none => rw [h1] at h; cases h
      | some r =>
        obtain ⟨ex1, a1, s1⟩ := r
        rw [h1] at h
        refine wp_block (ih f c a s ex1 a1 s1 h1 hd hn ι ac w _ har hs fun ι1 ac1 w1 g1 g2 => ?_)
        cases ex1 with
        | normal => simp only at h; cases h; exact hQ ι1 ac1 w1 g1 g2
        | ret => simp only at h; cases h; exact hQ ι1 ac1 w1 g1 g2
        | exit j =>
          simp only at h
          simp only [Ex.toExit, Exit.inBlock]
          cases hb : Nat.beq j id with
          | true =>
            rw [hb] at h; simp only [cond_true] at h; cases h
            rw [if_pos (Nat.eq_of_beq_eq_true hb)]
            exact hQ ι1 ac1 w1 g1 g2
          | false =>
            rw [hb] at h; simp only [cond_false] at h; cases h
            rw [if_neg (by intro e; subst e; simp at hb)]
            exact hQ ι1 ac1 w1 g1 g2
    case loop c =>
      simp only [Code.drawsOk, noDfr] at hd hn
      refine wp_loop_rounds (k + 1) (hL f c a s ex a' s' ?_ hd hn ι ac w Q har hs hQ)
      simp only [exec]
      exact h
    case region id ops draw =>
      have hen : ∀ g args s r, callOf E (exec E k) g args s = some r → ∀ as w, (callFunc g as).run P w = .ok (.enter g as) w := fun g args s r h => calls_enter (k := k) hE h
      have hcl : CallsOk P (callOf E (exec E k)) := hcall k ih
      simp only [Code.drawsOk, noDfr] at hd hn
      cases draw with
      | false =>
        simp only [cond_false] at h
        cases hr : runOps E (callOf E (exec E k)) ops.toList ops.toList a s with
        | none => rw [hr] at h; cases h
        | some r =>
          obtain ⟨a1, s1⟩ := r
          rw [hr] at h; cases h
          exact wp_region_list (runOps_wp hE hcl hen hr (noDfr_of hn) har hs hQ)
      | true =>
        simp only [cond_true] at h hd
        cases hp : E.plan f id with
        | none => rw [hp] at h; cases h
        | some pl =>
          rw [hp] at h; simp only at h
          unfold planned at hd
          rw [hp] at hd; simp only at hd
          cases hr : runPlan E (callOf E (exec E k)) ops.toList s.next pl a { s with next := s.next + ops.toList.length } with
          | none => rw [hr] at h; cases h
          | some r =>
            obtain ⟨a1, s1⟩ := r
            rw [hr] at h; cases h
            exact region_ok hE hcl hen (planB_facts hd) hr har hs hQ

end
end Go.Sh
