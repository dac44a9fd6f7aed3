/-
  A shadow interpreter for the model's operations: regions in any order. (No program in it.)
-/
import Derived.Test.YtnhofgbjmofcnaaGreatRShQ
namespace Go.Sh
open Go

variable [Sg : Sig]

/-! ### frames -/
omit Sg in
theorem Tr.patch {α : Type} (T H : Tr α) : ∀ (ms : List Nat), ∃ T' : Tr α, ∀ m, T'.get m = if m ∈ ms then H.get m else T.get m
  | [] => ⟨T, fun m => by simp⟩
  | x :: xs => by
    obtain ⟨T', h⟩ := Tr.patch T H xs
    cases hx : H.get x with
    | some o =>
      refine ⟨T'.set x o, fun m => ?_⟩
      rw [Tr.get_set, h]
      by_cases e : m = x
      · subst e; simp [hx]
      · simp [e]
    | none =>
      refine ⟨T'.del x, fun m => ?_⟩
      rw [Tr.get_del, h]
      by_cases e : m = x
      · subst e; simp [hx]
      · simp [e]

section
variable {ι ι' ι0 : Inj} {s0 s X X' H H' : St} {w w' w0 : World}

theorem Post.frameH (hp : Post ι X w ι' X' w') (hH : SR ι H w) (hsub : ∀ m o, X.heap.get m = some o → H.heap.get m = some o)
    (hn : X.next = H.next) (hn' : H'.next = X'.next) (M : Nat → Prop) (hget1 : ∀ m, M m → H'.heap.get m = H.heap.get m) (hget2 : ∀ m, ¬ M m → H'.heap.get m = X'.heap.get m)
    (hM : ∀ m, M m → X.heap.get m = none) : Post ι H w ι' H' w' := by
  have hold : ∀ {m o ni}, H.heap.get m = some o → ι' m = some ni → ι m = some ni := by
    intro m o ni hm hni
    obtain ⟨ni', h1, _⟩ := hH.obj m o hm
    have := hp.ext m ni' h1
    rw [hni] at this; cases this; exact h1
  have cross : ∀ {m k p q mi ki}, M m → H.heap.get m = some p → ¬ M k → X'.heap.get k = some q → ι' m = some mi → ι' k = some ki → mi.blk ≠ ki.blk := by
    intro m k p q mi ki hMm hm hMk hk hmi hki e
    have hmi' := hold hm hmi
    obtain ⟨mi2, h1, h2⟩ := hH.obj m p hm
    rw [hmi'] at h1; cases h1
    have hb := h2.blk
    rcases hp.blk k q ki hk hki with hge | ⟨j, r, ji, hj, hji, heq⟩
    · omega
    · have := hH.inj j m r p ji mi (hsub j r hj) hm hji hmi' (by rw [heq, e])
      subst this
      rw [hM j hMm] at hj; cases hj
  refine ⟨hp.ext, ⟨?_, ?_, ?_⟩, hp.size, ?_, ?_, hp.calm, ?_, ?_, ?_, ?_⟩
  · intro m o hm
    by_cases hMm : M m
    · rw [hget1 m hMm] at hm
      obtain ⟨ni, h1, h2⟩ := hH.obj m o hm
      refine ⟨ni, hp.ext m ni h1, h2.mono hp.ext (hp.frame ni.blk h2.blk ?_)⟩
      intro n o' ni' hn1 _ hni' e
      have := hH.inj n m o' o ni' ni (hsub n o' hn1) hm hni' h1 e
      subst this
      rw [hM n hMm] at hn1; cases hn1
    · rw [hget2 m hMm] at hm
      exact hp.rel.obj m o hm
  · intro m k p q mi ki hm hk hmi hki e
    by_cases hMm : M m
    · rw [hget1 m hMm] at hm
      by_cases hMk : M k
      · rw [hget1 k hMk] at hk
        exact hH.inj m k p q mi ki hm hk (hold hm hmi) (hold hk hki) e
      · rw [hget2 k hMk] at hk
        exact absurd e (cross hMm hm hMk hk hmi hki)
    · rw [hget2 m hMm] at hm
      by_cases hMk : M k
      · rw [hget1 k hMk] at hk
        exact absurd e.symm (cross hMk hk hMm hm hki hmi)
      · rw [hget2 k hMk] at hk
        exact hp.rel.inj m k p q mi ki hm hk hmi hki e
  · intro n ni hni
    rw [hn']; exact hp.rel.fresh n ni hni
  · intro b hb hf
    exact hp.frame b hb fun n o ni h1 h2 h3 => hf n o ni (hsub n o h1) h2 h3
  · intro m o ni hm ho hni
    by_cases hMm : M m
    · rw [hget1 m hMm] at hm
      exact .inr ⟨m, o, ni, hm, ho, hold hm hni, rfl⟩
    · rw [hget2 m hMm] at hm
      rcases hp.wr m o ni hm ho hni with hge | ⟨j, r, ji, hj, hr, hji, heq⟩
      · exact .inl hge
      · exact .inr ⟨j, r, ji, hsub j r hj, hr, hji, heq⟩
  · rw [← hn, hn']; exact hp.next
  · intro m o hm
    by_cases hMm : M m
    · rw [hget1 m hMm] at hm; exact .inl ⟨o, hm⟩
    · rw [hget2 m hMm] at hm
      rcases hp.live m o hm with ⟨p, h1⟩ | hge
      · exact .inl ⟨p, hsub m p h1⟩
      · rw [← hn]; exact .inr hge
  · intro m ni hm
    rcases hp.newn m ni hm with h1 | hge
    · exact .inl h1
    · rw [← hn]; exact .inr hge
  · intro m o ni hm hni
    by_cases hMm : M m
    · rw [hget1 m hMm] at hm
      exact .inr ⟨m, o, ni, hm, hold hm hni, rfl⟩
    · rw [hget2 m hMm] at hm
      rcases hp.blk m o ni hm hni with hge | ⟨j, r, ji, hj, hji, heq⟩
      · exact .inl hge
      · exact .inr ⟨j, r, ji, hsub j r hj, hji, heq⟩

theorem Post.room (h : SR ι s w) (n : Nat) (hw : w'.heap = w.heap) (hc : Calm w w') : Post ι s w ι { s with next := s.next + n } w' where
  ext := Ext.refl ι
  rel := (h.of_heap hw).sub (fun _ _ h => h) (Nat.le_add_right _ _)
  size := by rw [hw]; exact Nat.le_refl _
  frame := fun _ _ _ => by rw [hw]
  wr := fun n o ni hn ho hni => .inr ⟨n, o, ni, hn, ho, hni, rfl⟩
  calm := hc
  next := Nat.le_add_right _ _
  live := fun n o h => .inl ⟨o, h⟩
  newn := fun _ _ h => .inl h
  blk := fun n o ni hn hni => .inr ⟨n, o, ni, hn, hni, rfl⟩

theorem Post.pushAt (h : Post ι0 s0 w0 ι H w) {nm : Nat} {o : AObj} {ni : NI} {ob : Obj} (h0 : s0.next ≤ nm) (h1 : nm < H.next) (hι : ι nm = none) (hblk : ni.blk = w.heap.size)
    (hor : OR (upd ι nm ni) (wpush w ob) ni o) (hz : ∀ off, fzObj (some ob) off = false) : Post ι0 s0 w0 (upd ι nm ni) { H with heap := H.heap.set nm o } (wpush w ob) := by
  have hsz := h.size
  refine ⟨h.ext.trans (Ext.upd ni hι), h.rel.push hι hblk (Nat.le_refl _) h1 hor, by rw [wpush_size]; omega, ?_, ?_, ⟨h.calm.os, h.calm.output, h.calm.tape, fun a => (wpush_frozen hz a).trans (h.calm.froz a)⟩, h.next, ?_, ?_, ?_⟩
  · intro b hb hf
    rw [wpush_get, if_neg (by omega)]
    exact h.frame b hb hf
  · intro m p mi hm hp hmi
    simp only [Tr.get_set] at hm
    by_cases e : m = nm
    · subst e
      rw [upd_same] at hmi; cases hmi
      exact .inl (by omega)
    · rw [if_neg e] at hm
      rw [upd_ne _ _ e] at hmi
      exact h.wr m p mi hm hp hmi
  · intro m p hm
    simp only [Tr.get_set] at hm
    by_cases e : m = nm
    · exact .inr (by omega)
    · rw [if_neg e] at hm; exact h.live m p hm
  · intro m mi hm
    by_cases e : m = nm
    · exact .inr (by omega)
    · rw [upd_ne _ _ e] at hm; exact h.newn m mi hm
  · intro m p mi hm hmi
    simp only [Tr.get_set] at hm
    by_cases e : m = nm
    · subst e
      rw [upd_same] at hmi; cases hmi
      exact .inl (by omega)
    · rw [if_neg e] at hm
      rw [upd_ne _ _ e] at hmi
      exact h.blk m p mi hm hmi

theorem Post.same (h : Post ι0 s0 w0 ι H w) (hget : ∀ m, H'.heap.get m = H.heap.get m) (hn : H'.next = H.next) : Post ι0 s0 w0 ι H' w where
  ext := h.ext
  rel := h.rel.sub (fun m o => by rw [hget]; exact id) (Nat.le_of_eq hn.symm)
  size := h.size
  frame := h.frame
  wr := fun n o ni hm => h.wr n o ni (by rw [← hget]; exact hm)
  calm := h.calm
  next := by rw [hn]; exact h.next
  live := fun n o hm => h.live n o (by rw [← hget]; exact hm)
  newn := h.newn
  blk := fun n o ni hm => h.blk n o ni (by rw [← hget]; exact hm)

end

/-! ### plans -/
def isCh : Cls → Bool
  | .chain => true
  | .call => true
  | _ => false

def Closed (ops : Array Oper) (L : Nat → Prop) : Prop := ∀ i o, L i → ops[i]? = some o → ∀ e ∈ o.after, Region.binds .any e = true → L e.on

/-- i is listed before j. -/
def Bef (ops : Array Oper) (i j : Nat) : Prop := ∀ (L : Nat → Prop), Closed ops L → ∀ oj, ops[j]? = some oj → (∀ e ∈ oj.after, Region.binds .any e = true → L e.on) → L i

structure Two (E : Env) (ops : Array Oper) (x y : PStep) (ox oy : Oper) : Prop where
  ne : x.i ≠ y.i
  dst : ∀ t, ox.dst = some t → oy.dst ≠ some t
  see : ∀ t, ox.dst = some t → t ∈ oy.looksAt ops → Bef ops x.i y.i
  seen : ∀ t, oy.dst = some t → t ∈ ox.looksAt ops → Bef ops x.i y.i ∧ cls E ox.op ≠ .read
  chain : isCh (cls E ox.op) = true → isCh (cls E oy.op) = true → Bef ops x.i y.i
  made : cls E ox.op = .alloc → (cls E oy.op = .read ∨ isCh (cls E oy.op) = true) → Bef ops x.i y.i
  after : isCh (cls E ox.op) = true → cls E oy.op = .read → Bef ops x.i y.i
  again : cls E ox.op = .read → isCh (cls E oy.op) = true → Bef ops x.i y.i ∨ x.i ∈ y.again

structure PlanFacts (E : Env) (ops : Array Oper) (pl : List PStep) : Prop where
  len : pl.length = ops.size
  all : ∀ i, i < ops.size → ∃ (p : Nat) (x : PStep), pl[p]? = some x ∧ x.i = i
  one : ∀ (p : Nat) (x : PStep) (o : Oper), pl[p]? = some x → ops[x.i]? = some o → cls E o.op ≠ .dfr ∧ (cls E o.op = .read → ∀ t, o.dst = some t → t ∉ o.looksAt ops)
  two : ∀ (p r : Nat) (x y : PStep) (ox oy : Oper), p < r → pl[p]? = some x → pl[r]? = some y → ops[x.i]? = some ox → ops[y.i]? = some oy → Two E ops x y ox oy
  down : ∀ (j : Nat) (o : Oper), ops[j]? = some o → ∀ e ∈ o.after, Region.binds .any e = true → e.on < j

abbrev CallK := FuncId → List Value → St → Option (Value × St)

structure Tra (E : Env) (callK : CallK) (ops : List Oper) (base : Nat) (pl : List PStep) (A : Nat → AA) (C : Nat → St) : Prop where
  step : ∀ (p : Nat) (x : PStep), pl[p]? = some x → ∃ o, ops[x.i]? = some o ∧ step1 E callK ops o (some (base + x.i)) (A p) (C p) = some (A (p + 1), C (p + 1)) ∧ againOk E ops (A (p + 1)) (C (p + 1)) x.again = true

omit Sg in
theorem runPlan_tra {E : Env} {callK : CallK} {ops : List Oper} {base : Nat} : ∀ {pl : List PStep} {a a' : AA} {s s' : St}, runPlan E callK ops base pl a s = some (a', s') →
    ∃ A C, A 0 = a ∧ C 0 = s ∧ A pl.length = a' ∧ C pl.length = s' ∧ Tra E callK ops base pl A C
  | [], a, a', s, s', h => by
    simp only [runPlan] at h; cases h
    exact ⟨fun _ => a, fun _ => s, rfl, rfl, rfl, rfl, ⟨fun p x hx => by simp at hx⟩⟩
  | x :: rest, a, a', s, s', h => by
    simp only [runPlan] at h
    cases ho : ops[x.i]? with
    | none => rw [ho] at h; cases h
    | some o =>
      rw [ho] at h; simp only at h
      cases hs : step1 E callK ops o (some (base + x.i)) a s with
      | none => rw [hs] at h; cases h
      | some r =>
        obtain ⟨a1, s1⟩ := r
        rw [hs] at h; simp only at h
        cases hg : againOk E ops a1 s1 x.again with
        | false => rw [hg] at h; cases h
        | true =>
          rw [hg] at h; simp only [cond_true] at h
          obtain ⟨A, C, h1, h2, h3, h4, h5⟩ := runPlan_tra h
          refine ⟨fun | 0 => a | p + 1 => A p, fun | 0 => s | p + 1 => C p, rfl, rfl, h3, h4, ⟨fun p y hy => ?_⟩⟩
          cases p with
          | zero =>
            simp only [List.getElem?_cons_zero, Option.some.injEq] at hy
            subst hy
            exact ⟨o, ho, by simp only [h1, h2]; exact hs, by simp only [h1, h2]; exact hg⟩
          | succ p =>
            simp only [List.getElem?_cons_succ] at hy
            exact h5.step p y hy

omit Sg in
/-- What one operation came to. -/
theorem step1_cases {E : Env} {callK : CallK} {ops : List Oper} {o : Oper} {nm : Nat} {a a' : AA} {s s' : St} (h : step1 E callK ops o (some nm) a s = some (a', s')) (hd : cls E o.op ≠ .dfr) :
    ∃ v, a.put o.dst v = some a' ∧ ((wantedA ops o a = false ∧ v = undef ∧ s' = s) ∨ (wantedA ops o a = true ∧
      ((cls E o.op = .pure ∧ apure E a.eval o = some v ∧ s' = s) ∨ (cls E o.op = .read ∧ aread E a.eval o s = some v ∧ s' = s) ∨
       (cls E o.op = .alloc ∧ ∃ ob f, aalloc E a.eval o = some (ob, f) ∧ v = f nm ∧ s' = { s with heap := s.heap.set nm ob }) ∨
       (cls E o.op = .chain ∧ achain E a.eval o s = some (v, s')) ∨
       (cls E o.op = .call ∧ ∃ c g args, o.op = .call c ∧ callee a.eval c = some (g, args) ∧ callK g args s = some (v, s'))))) := by
  unfold step1 at h
  cases hw : wantedA ops o a with
  | false =>
    rw [hw] at h; simp only [cond_false] at h
    cases hp : a.put o.dst undef with
    | none => rw [hp] at h; cases h
    | some a1 => rw [hp] at h; cases h; exact ⟨_, hp, .inl ⟨rfl, rfl, rfl⟩⟩
  | true =>
    rw [hw] at h; simp only [cond_true] at h
    cases hc : cls E o.op <;> rw [hc] at h <;> simp only at h
    case pure =>
      cases hv : apure E a.eval o with
      | none => rw [hv] at h; cases h
      | some v =>
        rw [hv] at h; simp only at h
        cases hp : a.put o.dst v with
        | none => rw [hp] at h; cases h
        | some a1 => rw [hp] at h; cases h; exact ⟨_, hp, .inr ⟨rfl, .inl ⟨rfl, rfl, rfl⟩⟩⟩
    case read =>
      cases hv : aread E a.eval o s with
      | none => rw [hv] at h; cases h
      | some v =>
        rw [hv] at h; simp only at h
        cases hp : a.put o.dst v with
        | none => rw [hp] at h; cases h
        | some a1 => rw [hp] at h; cases h; exact ⟨_, hp, .inr ⟨rfl, .inr (.inl ⟨rfl, rfl, rfl⟩)⟩⟩
    case alloc =>
      cases hv : aalloc E a.eval o with
      | none => rw [hv] at h; cases h
      | some r =>
        obtain ⟨ob, f⟩ := r
        rw [hv] at h; simp only at h
        cases hp : a.put o.dst (f nm) with
        | none => rw [hp] at h; cases h
        | some a1 => rw [hp] at h; cases h; exact ⟨_, hp, .inr ⟨rfl, .inr (.inr (.inl ⟨rfl, ob, f, rfl, rfl, rfl⟩))⟩⟩
    case chain =>
      cases hv : achain E a.eval o s with
      | none => rw [hv] at h; cases h
      | some r =>
        obtain ⟨v, s1⟩ := r
        rw [hv] at h; simp only at h
        cases hp : a.put o.dst v with
        | none => rw [hp] at h; cases h
        | some a1 => rw [hp] at h; cases h; exact ⟨_, hp, .inr ⟨rfl, .inr (.inr (.inr (.inl ⟨rfl, rfl⟩)))⟩⟩
    case call =>
      cases ho : o.op <;> rw [ho] at h <;> simp only at h <;> (try (cases h; done))
      rename_i c
      cases hcl : callee a.eval c with
      | none => rw [hcl] at h; cases h
      | some r =>
        obtain ⟨g, args⟩ := r
        rw [hcl] at h; simp only at h
        cases hv : callK g args s with
        | none => rw [hv] at h; cases h
        | some r =>
          obtain ⟨v, s1⟩ := r
          rw [hv] at h; simp only at h
          cases hp : a.put o.dst v with
          | none => rw [hp] at h; cases h
          | some a1 => rw [hp] at h; cases h; exact ⟨_, hp, .inr ⟨rfl, .inr (.inr (.inr (.inr ⟨rfl, c, g, args, rfl, hcl, hv⟩)))⟩⟩
    case dfr => exact absurd hc hd
    case bad => cases h

end Go.Sh
