/-
  NodeAny: a config that may be.
-/
import Derived.Test.YtnhofgbjmofcnaaGreatRSa3
import Derived.Test.YtnhofgbjmofcnaaGreatRSa4
import Derived.Test.YtnhofgbjmofcnaaGreatRSa5
import Derived.Test.YtnhofgbjmofcnaaGreatRSa6
import Derived.Test.YtnhofgbjmofcnaaGreatRSa7
import Derived.Test.YtnhofgbjmofcnaaGreatRSa8
import Derived.RowKit3
namespace Go.Sh
open Go
open Go.Proofs

/-- From nothing: of what was there nothing turns. -/
theorem Post.grown [Sg : Sig] {ι ι' : Inj} {s' : St} {w w' : World} (h : Post ι ⟨.leaf, 0⟩ w ι' s' w') : RowKit.Grown w w' := by
  have hb : ∀ b, b < w.heap.size → w'.heap[b]? = w.heap[b]? := fun b hb => h.frame b hb fun n o ni hn => by rw [Tr.get_leaf] at hn; cases hn
  refine ⟨⟨h.calm.os, h.calm.output, fun i hi => ?_⟩, h.calm.froz, h.size⟩
  rw [hb i hi]
  cases hx : w.heap[i]? with
  | none => rfl
  | some o => cases o <;> first | rfl | exact ⟨rfl, rfl, rfl, fun _ _ => rfl⟩ | exact .inr ⟨rfl, rfl⟩

theorem leaf_SR [Sg : Sig] (w : World) : SR (fun _ => none) ⟨.leaf, 0⟩ w := ⟨fun n o h => (by rw [Tr.get_leaf] at h; cases h), fun n m o p ni mi h => (by rw [Tr.get_leaf] at h; cases h), fun n ni h => (by cases h)⟩

theorem good_of [Sg : Sig] {prim : Nat → Option (List Value → St → Option (Value × St))} {tab : List Ent} {room : Nat → Bool} (hp : ∀ f p, prim f = some p → PrimOk Tryz.prog f p ∧ ∀ args w, (callFunc f args).run Tryz.prog w = .ok (.enter f args) w)
    (ht : AllP EntOk tab) (hr : ∀ n, room n = true → ∃ k m, Sg.sym n = .int k m ∧ 0 ≤ m ∧ m.toNat ≤ 5000) : (seatEnv prim (orcOf tab) room).Good Tryz.prog :=
  seat_good prim (orcOf tab) room hp (orcOf_ok ht) hr

theorem run_true [Sg : Sig] {E : Env} (hG : E.Good Tryz.prog) {k : Nat} {args ws : List Value} (h : okRun (calls E k 3 args ⟨.leaf, 0⟩) = true) (hl : LR (fun _ => none) args ws) (w : World) :
    Calls Tryz.prog 3 ⟨ws⟩ w fun e w' => e = .returned (.bool true) ∧ RowKit.Grown w w' := by
  cases hr : calls E k 3 args ⟨.leaf, 0⟩ with
  | none => rw [hr] at h; cases h
  | some r =>
    obtain ⟨v, s⟩ := r
    rw [hr] at h
    have hv : v = .bool true := by
      unfold okRun at h
      cases v <;> (try simp only at h) <;> (try (cases h; done))
      rename_i b
      cases b
      · cases h
      · rfl
    subst hv
    refine (calls_ok hG k 3 args ⟨.leaf, 0⟩ _ s hr _ w ws (leaf_SR w) hl).mono ?_
    rintro e w' ⟨ι', v', rfl, h1, h2⟩
    cases h1
    exact ⟨rfl, h2.grown⟩

theorem known_prim [Sg : Sig] : PrimOk Tryz.prog 6 (kKnown.prim []) :=
  fresh_prim (argsN := []) (calls_ok (good_of (tab := []) noPrim_ok trivial noRoom_ok) 2000) noAl_ok known_run rfl rfl rfl

section
variable (x : Cfg) (h : x.May) (hn : 1 ≤ x.n ∧ x.n ≤ x.c 0)

include h in
theorem may_prim (args : List Value) (ha : allV argV args = true) (heq : [cfgS].map (@realA x.sig) = args.map (@realA x.sig)) : @PrimOk x.sig Tryz.prog 7 (kMay.prim args) := by
  letI := x.sig
  exact fresh_prim (argsN := [cfgS]) (calls_ok (good_of noPrim_ok (tabMay_ok x h) noRoom_ok) 400) noAl_ok may_run ha rfl heq

include h hn in
theorem envN_good : @Env.Good x.sig (envN (x.c 0)) Tryz.prog := by
  letI := x.sig
  refine good_of (fun f p hp => ?_) (tabN_ok x h hn) noRoom_ok
  unfold primN at hp
  cases hf : Nat.beq f 7 with
  | false => rw [hf] at hp; cases hp
  | true =>
    rw [hf] at hp; simp only [cond_true] at hp; cases hp
    have := Nat.eq_of_beq_eq_true hf
    subst this
    exact ⟨may_prim x h _ rfl rfl, Tryz.call7⟩

theorem alN_ok : @AlOk x.sig (alN (x.c 0)) := by
  letI := x.sig
  intro n v hv
  simp only [alN, Bool.and_eq_true] at hv
  have e1 := Nat.eq_of_beq_eq_true hv.1
  have e2 := sameV_eq hv.2
  subst e1; subst e2
  exact ⟨⟨_, _, rfl⟩, rfl⟩

include h hn in
theorem caller_prim : @PrimOk x.sig Tryz.prog 22 (kCaller.prim [cfgMS (x.c 1) (x.c 2), .complex .f64 22 0, .complex .f64 21 0]) := by
  letI := x.sig
  obtain ⟨N, hN⟩ := Int.eq_ofNat_of_zero_le (show 0 ≤ x.c 0 by have := h.h0; omega)
  have hr := caller_all N (by have := h.h0; omega) (by have := h.h0; omega)
  have hr' : keptOk (alN (x.c 0)) kCaller (calls (envN (x.c 0)) 400 22 [cfgN (x.c 0), .complex .f64 22 0, .complex .f64 21 0] ⟨.leaf, 0⟩) = true := by rw [hN]; exact hr
  exact fresh_prim (calls_ok (envN_good x h hn) 400) (alN_ok x) hr' rfl rfl rfl

include h hn in
theorem open_prim : @PrimOk x.sig Tryz.prog 23 (kOpen.prim [cfgMS (x.c 1) (x.c 2), .complex .f64 22 0]) := by
  letI := x.sig
  obtain ⟨N, hN⟩ := Int.eq_ofNat_of_zero_le (show 0 ≤ x.c 0 by have := h.h0; omega)
  have hr := open_all N (by have := h.h0; omega) (by have := h.h0; omega)
  have hr' : keptOk (alN (x.c 0)) kOpen (calls (envN (x.c 0)) 400 23 [cfgN (x.c 0), .complex .f64 22 0] ⟨.leaf, 0⟩) = true := by rw [hN]; exact hr
  exact fresh_prim (calls_ok (envN_good x h hn) 400) (alN_ok x) hr' rfl rfl rfl

include h hn in
theorem envMain_good : @Env.Good x.sig (envMain (x.c 1) (x.c 2)) Tryz.prog := by
  letI := x.sig
  refine good_of (fun f p hp => ?_) (tabMain_ok x h hn) (roomOf_ok x h)
  unfold primMain at hp
  cases h6 : Nat.beq f 6 with
  | true =>
    rw [h6] at hp; simp only [cond_true] at hp; cases hp
    have := Nat.eq_of_beq_eq_true h6
    subst this
    exact ⟨known_prim, Tryz.call6⟩
  | false =>
    rw [h6] at hp; simp only [cond_false] at hp
    cases h7 : Nat.beq f 7 with
    | true =>
      rw [h7] at hp; simp only [cond_true] at hp; cases hp
      have := Nat.eq_of_beq_eq_true h7
      subst this
      exact ⟨may_prim x h _ rfl rfl, Tryz.call7⟩
    | false =>
      rw [h7] at hp; simp only [cond_false] at hp
      cases h22 : Nat.beq f 22 with
      | true =>
        rw [h22] at hp; simp only [cond_true] at hp; cases hp
        have := Nat.eq_of_beq_eq_true h22
        subst this
        exact ⟨caller_prim x h hn, Tryz.call22⟩
      | false =>
        rw [h22] at hp; simp only [cond_false] at hp
        cases h23 : Nat.beq f 23 with
        | true =>
          rw [h23] at hp; simp only [cond_true] at hp; cases hp
          have := Nat.eq_of_beq_eq_true h23
          subst this
          exact ⟨open_prim x h hn, Tryz.call23⟩
        | false => rw [h23] at hp; cases hp

/-- The arguments as they are. -/
def argsOf (x : Cfg) : List Value := [cfgS, .complex .f64 22 0].map (@realA x.sig)

include h hn in
theorem any_may (w : World) : Calls Tryz.prog 3 ⟨argsOf x⟩ w fun e w' => e = .returned (.bool true) ∧ RowKit.Grown w w' := by
  letI := x.sig
  obtain ⟨m, hm⟩ := Int.eq_ofNat_of_zero_le (show 0 ≤ x.c 1 by have := h.h1; omega)
  obtain ⟨s, hs⟩ := Int.eq_ofNat_of_zero_le (show 0 ≤ x.c 2 by have := h.h2; omega)
  have b1 := h.h1
  have b2 := h.h2
  have hr : mainOk m s = true := by
    by_cases e1 : m = 1
    · subst e1; exact main1 s (by omega) (by omega)
    by_cases e2 : m = 2
    · subst e2; exact main2 s (by omega) (by omega)
    by_cases e3 : m = 3
    · subst e3; exact main3 s (by omega) (by omega)
    by_cases e4 : m = 4
    · subst e4; exact main4 s (by omega) (by omega)
    omega
  have hr' : okRun (calls (envMain (x.c 1) (x.c 2)) 400 3 [cfgMS (x.c 1) (x.c 2), .complex .f64 22 0] ⟨.leaf, 0⟩) = true := by rw [hm, hs]; exact hr
  refine run_true (envMain_good x h hn) hr' ?_ w
  have : argsOf x = [cfgMS (x.c 1) (x.c 2), .complex .f64 22 0].map realA := rfl
  rw [this]
  exact LR.of_args rfl

end
end Go.Sh
