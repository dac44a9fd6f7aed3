/-
  A shadow interpreter for the model's operations: environments out of lists. (No program in it.)
-/
import Derived.Test.YtnhofgbjmofcnaaGreatRShX
import Derived.KernelRfl
namespace Go.Sh
open Go

def AllP {α : Type} (p : α → Prop) : List α → Prop
  | [] => True
  | a :: l => p a ∧ AllP p l

theorem AllP.append {α : Type} {p : α → Prop} : ∀ {l m : List α}, AllP p l → AllP p m → AllP p (l ++ m)
  | [], _, _, h => h
  | _ :: _, _, h, h' => ⟨h.1, AllP.append h.2 h'⟩

theorem AllP.mem {α : Type} {p : α → Prop} : ∀ {l : List α}, AllP p l → ∀ {a : α}, a ∈ l → p a
  | _ :: l, h, a, hm => by
    rcases List.mem_cons.1 hm with rfl | hm
    · exact h.1
    · exact AllP.mem h.2 hm

def trOf {α : Type} (l : List (Nat × α)) : Tr α := l.foldl (fun t p => t.set p.1 p.2) .leaf

theorem trOf_mem {α : Type} {l : List (Nat × α)} {n : Nat} {a : α} (h : (trOf l).get n = some a) : (n, a) ∈ l := by
  have key : ∀ (l : List (Nat × α)) (t : Tr α), (l.foldl (fun t p => t.set p.1 p.2) t).get n = some a → (n, a) ∈ l ∨ t.get n = some a := by
    intro l
    induction l with
    | nil => intro t h; exact .inr h
    | cons p l ih =>
      intro t h
      rcases ih _ h with h | h
      · exact .inl (by simp [h])
      · rw [Tr.get_set] at h
        by_cases e : n = p.1
        · rw [if_pos e] at h; cases h
          exact .inl (by rw [e]; simp)
        · rw [if_neg e] at h; exact .inr h
  rcases key l .leaf h with h | h
  · exact h
  · rw [Tr.get_leaf] at h; cases h

def zcells : Option Value → List Value
  | some z => z.cells.toList
  | none => []

theorem TyOk.of {P : Program} {t : Nat} {i : TypeInfo} {d : TypeDesc} {z : Value} (hz : i.zero = some z) (hi : P.types[t]? = some i) (hu : P.underlying t = some d)
    (he : isAgg d = false ∨ (isAgg d = true ∧ P.eqGuardType P.depth t = false ∧ P.stoodInHeld t = false))
    (hp : (allV plainV (zcells i.zero) && cond (isAgg d) (match z with | .agg _ => true | _ => false) (match z with | .agg _ => false | .tuple _ => false | _ => true)) = true) : TyOk P t ⟨d, i.size, i.bytes, zcells i.zero⟩ := by
  simp only [Bool.and_eq_true] at hp
  have hi' : P.info? t = some i := by
    unfold Tables.info?
    rw [if_pos (Array.getElem?_eq_some_iff.1 hi).1]; exact hi
  refine ⟨⟨i, hi', rfl, rfl, z, hz, by rw [hz]; rfl, ?_, ?_⟩, hu, fun v hv => allV_mem.1 hp.1 v hv, fun h => ?_⟩
  · intro h
    have h2 := hp.2
    rw [hz]
    simp only at h
    rw [h] at h2
    cases z <;> simp [zcells, Value.cells] at h2 ⊢
  · intro h
    have h2 := hp.2
    rw [hz]
    simp only at h
    rw [h] at h2
    cases z <;> simp [zcells, Value.cells] at h2 ⊢
  · simp only at h
    rcases he with he | he
    · rw [h] at he; cases he
    · exact he.2

variable [Sg : Sig]

structure FnOk (P : Program) (f : Nat) (fn : Func) : Prop where
  at_ : P.funcs[f]? = some fn
  enter : fn.body.isSome = true → ∀ args w, (callFunc f args).run P w = .ok (.enter f args) w

def findPlan (id : Nat) : List (Nat × List PStep) → Option (List PStep)
  | [] => none
  | (j, pl) :: r => cond (Nat.beq j id) (some pl) (findPlan id r)

def planOf (t : Tr (List (Nat × List PStep))) (f id : Nat) : Option (List PStep) := match t.get f with
  | some l => findPlan id l
  | none => none

def lookOk (E : Env) (p : Nat × Func) : Bool := match p.2.body with
  | some b => Code.drawsOk (planned E p.1) b && noDfr E b
  | none => true

theorem Env.Good.of {P : Program} {tyT : Tr TI} {tyL : List (Nat × TI)} (hty : trOf tyL = tyT) (htyA : AllP (fun p => TyOk P p.1 p.2) tyL) {fnT : Tr Func} {fnL : List (Nat × Func)} (hfn : trOf fnL = fnT) (hfnA : AllP (fun p => FnOk P p.1 p.2) fnL)
    {prim : Nat → Option (List Value → St → Option (Value × St))} {plan : Nat → Nat → Option (List PStep)} {orc : BinOp → Value → Value → Option Value} {room : Nat → Bool} (hprim : ∀ f p, prim f = some p → PrimOk P f p ∧ ∀ args w, (callFunc f args).run P w = .ok (.enter f args) w)
    (horc : ∀ op u v r, orc op u v = some r → ∀ (ι : Inj) u' v' t w, VR ι u u' → VR ι v v' → ¬ (u' = .nilIface ∧ v' = .nilIface) ∧ (∀ xs, u' ≠ .agg xs) ∧ ∃ r', (binOp op t u' v').run P w = .ok r' w ∧ VR ι r r')
    (hroom : ∀ n, room n = true → ∃ k m, Sg.sym n = .int k m ∧ 0 ≤ m ∧ m.toNat ≤ 5000)
    (hm : P.follows .mixedOrders = true) (hl : fnL.all (lookOk { ty := tyT, fn := fnT, prim := prim, plan := plan, orc := orc, room := room }) = true) : Env.Good { ty := tyT, fn := fnT, prim := prim, plan := plan, orc := orc, room := room } P := by
  have hf : ∀ f fn, fnT.get f = some fn → (f, fn) ∈ fnL := fun f fn h => trOf_mem (by rw [hfn]; exact h)
  have hlook : ∀ f fn body, fnT.get f = some fn → fn.body = some body → Code.drawsOk (planned { ty := tyT, fn := fnT, prim := prim, plan := plan, orc := orc, room := room } f) body = true ∧ noDfr { ty := tyT, fn := fnT, prim := prim, plan := plan, orc := orc, room := room } body = true := by
    intro f fn body h hb
    have := List.all_eq_true.1 hl (f, fn) (hf f fn h)
    unfold lookOk at this
    simp only [hb, Bool.and_eq_true] at this
    exact this
  exact ⟨⟨fun t ti h => htyA.mem (trOf_mem (by rw [hty]; exact h)), fun f fn h => (hfnA.mem (hf f fn h)).at_, fun f fn h => (hfnA.mem (hf f fn h)).enter, hprim, hm, horc, hroom⟩,
    fun f fn body h hb => (hlook f fn body h hb).2, fun f fn body h hb => (hlook f fn body h hb).1⟩

end Go.Sh
