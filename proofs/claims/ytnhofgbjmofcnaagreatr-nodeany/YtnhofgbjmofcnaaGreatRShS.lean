/-
  A shadow interpreter for the model's operations: a region in any order. (No program in it.)
-/
import Derived.Test.YtnhofgbjmofcnaaGreatRShR
namespace Go.Sh
open Go

variable [Sg : Sig]

deriving instance DecidableEq for Cls

def made (E : Env) (ops : Array Oper) (A : Nat → AA) (r : Nat) (o : Oper) : Option AObj :=
  if cls E o.op = .alloc ∧ wantedA ops.toList o (A r) = true then (aalloc E (A r).eval o).map (·.1) else none

section
variable {E : Env} {P : Program} {ops : Array Oper} {pl : List PStep} {A : Nat → AA} {C : Nat → St} {callK : CallK} {base : Nat}
variable (hT : Tra E callK ops.toList base pl A C) (hF : PlanFacts E ops pl)

abbrev Lst (listed : Array Bool) (i : Nat) : Prop := listed.getD i false = true

omit Sg in
include hT hF in
theorem tra_at {p : Nat} {x : PStep} {o : Oper} (hx : pl[p]? = some x) (ho : ops[x.i]? = some o) :
    ∃ v, (A p).put o.dst v = some (A (p + 1)) ∧ ((wantedA ops.toList o (A p) = false ∧ v = undef ∧ C (p + 1) = C p) ∨ (wantedA ops.toList o (A p) = true ∧
      ((cls E o.op = .pure ∧ apure E (A p).eval o = some v ∧ C (p + 1) = C p) ∨ (cls E o.op = .read ∧ aread E (A p).eval o (C p) = some v ∧ C (p + 1) = C p) ∨
       (cls E o.op = .alloc ∧ ∃ ob f, aalloc E (A p).eval o = some (ob, f) ∧ v = f (base + x.i) ∧ C (p + 1) = { C p with heap := (C p).heap.set (base + x.i) ob }) ∨
       (cls E o.op = .chain ∧ achain E (A p).eval o (C p) = some (v, C (p + 1))) ∨
       (cls E o.op = .call ∧ ∃ c g args, o.op = .call c ∧ callee (A p).eval c = some (g, args) ∧ callK g args (C p) = some (v, C (p + 1)))))) := by
  obtain ⟨o', h1, h2, _⟩ := hT.step p x hx
  have : o' = o := by
    have : ops.toList[x.i]? = some o := by simpa using ho
    rw [this] at h1; cases h1; rfl
  subst this
  exact step1_cases h2 (hF.one p x o' hx ho).1

omit Sg in
include hT in
theorem tra_op {p : Nat} {x : PStep} (hx : pl[p]? = some x) : ∃ o, ops[x.i]? = some o := by
  obtain ⟨o, h1, _⟩ := hT.step p x hx
  exact ⟨o, by simpa using h1⟩

omit Sg in
omit hT hF in
theorem pl_get {p : Nat} (hp : p < pl.length) : ∃ x, pl[p]? = some x := ⟨pl[p], by simp [hp]⟩

omit Sg in
include hT hF in
theorem tra_n : ∀ p, p ≤ pl.length → (A p).n = (A 0).n ∧ (A p).df = (A 0).df := by
  intro p
  induction p with
  | zero => intro _; exact ⟨rfl, rfl⟩
  | succ p ih =>
    intro hp
    obtain ⟨x, hx⟩ := pl_get (pl := pl) (p := p) (by omega)
    obtain ⟨o, ho⟩ := tra_op hT hx
    obtain ⟨v, hv, _⟩ := tra_at hT hF hx ho
    obtain ⟨h1, h2, _⟩ := AA.look_put hv
    obtain ⟨h3, h4⟩ := ih (by omega)
    exact ⟨h1.trans h3, h2.trans h4⟩

omit Sg in
include hT hF in
theorem tra_look {t : Nat} {p : Nat} : ∀ p', p ≤ p' → p' ≤ pl.length → (∀ r x o, p ≤ r → r < p' → pl[r]? = some x → ops[x.i]? = some o → o.dst ≠ some t) → (A p').look t = (A p).look t := by
  intro p'
  induction p' with
  | zero => intro h _ _; have : p = 0 := by omega
            rw [this]
  | succ q ih =>
    intro h hq hn
    by_cases e : p = q + 1
    · rw [e]
    · obtain ⟨x, hx⟩ := pl_get (pl := pl) (p := q) (by omega)
      obtain ⟨o, ho⟩ := tra_op hT hx
      obtain ⟨v, hv, _⟩ := tra_at hT hF hx ho
      obtain ⟨_, _, _, h4⟩ := AA.look_put hv
      rw [h4, if_neg (hn q x o (by omega) (by omega) hx ho)]
      exact ih (by omega) (by omega) fun r x o h1 h2 => hn r x o h1 (by omega)

omit Sg in
include hF in
theorem uniq {r r' : Nat} {x x' : PStep} {o o' : Oper} {t : Nat} (hx : pl[r]? = some x) (hx' : pl[r']? = some x') (ho : ops[x.i]? = some o) (ho' : ops[x'.i]? = some o') (hd : o.dst = some t) (hd' : o'.dst = some t) : r = r' := by
  rcases Nat.lt_trichotomy r r' with h | h | h
  · exact absurd hd' ((hF.two r r' x x' o o' h hx hx' ho ho').dst t hd)
  · exact h
  · exact absurd hd ((hF.two r' r x' x o' o h hx' hx ho' ho).dst t hd')

omit Sg in
include hF in
theorem uniqi {r r' : Nat} {x x' : PStep} {o o' : Oper} (hx : pl[r]? = some x) (hx' : pl[r']? = some x') (ho : ops[x.i]? = some o) (ho' : ops[x'.i]? = some o') (hd : x.i = x'.i) : r = r' := by
  rcases Nat.lt_trichotomy r r' with h | h | h
  · exact absurd hd ((hF.two r r' x x' o o' h hx hx' ho ho').ne)
  · exact h
  · exact absurd hd.symm ((hF.two r' r x' x o' o h hx' hx ho' ho).ne)

omit Sg in
/-- What an operation sees in the end. -/
theorem tra_end {r : Nat} {x : PStep} {o : Oper} {t : Nat} (hT : Tra E callK ops.toList base pl A C) (hF : PlanFacts E ops pl) (hx : pl[r]? = some x) (ho : ops[x.i]? = some o) (hd : o.dst = some t) {p : Nat} (hp : r < p) (hp' : p ≤ pl.length) : (A pl.length).look t = (A p).look t := by
  refine tra_look hT hF pl.length hp' (Nat.le_refl _) fun r' x' o' h1 h2 hx' ho' hd' => ?_
  have := uniq hF hx hx' ho ho' hd hd'
  omega

omit Sg in
theorem tra_start {r : Nat} {x : PStep} {o : Oper} {t : Nat} (hT : Tra E callK ops.toList base pl A C) (hF : PlanFacts E ops pl) (hx : pl[r]? = some x) (ho : ops[x.i]? = some o) (hd : o.dst = some t) {p : Nat} (hp : p ≤ r) (hp' : p ≤ pl.length) : (A p).look t = (A 0).look t := by
  refine tra_look hT hF p (Nat.zero_le _) hp' fun r' x' o' h1 h2 hx' ho' hd' => ?_
  have := uniq hF hx hx' ho ho' hd hd'
  omega

include hT hF in
omit Sg in
/-- Between two operations that may write, the heap stays but for what is made. -/
theorem tra_heap {q : Nat} : ∀ p, q ≤ p → p ≤ pl.length → (∀ r x o, q ≤ r → r < p → pl[r]? = some x → ops[x.i]? = some o → isCh (cls E o.op) = false) →
    (C p).next = (C q).next ∧ ∀ m, (∀ r x o, q ≤ r → r < p → pl[r]? = some x → ops[x.i]? = some o → cls E o.op = .alloc → m ≠ base + x.i) → (C p).heap.get m = (C q).heap.get m := by
  intro p
  induction p with
  | zero => intro h _ _; have : q = 0 := by omega
            rw [this]; exact ⟨rfl, fun _ _ => rfl⟩
  | succ p ih =>
    intro h hp hn
    by_cases e : q = p + 1
    · rw [e]; exact ⟨rfl, fun _ _ => rfl⟩
    · obtain ⟨h1, h2⟩ := ih (by omega) (by omega) fun r x o h1 h2 => hn r x o h1 (by omega)
      obtain ⟨x, hx⟩ := pl_get (pl := pl) (p := p) (by omega)
      obtain ⟨o, ho⟩ := tra_op hT hx
      have hnc := hn p x o (by omega) (by omega) hx ho
      obtain ⟨v, _, hc⟩ := tra_at hT hF hx ho
      have keep : C (p + 1) = C p → (C (p + 1)).next = (C q).next ∧ ∀ m, (∀ r x o, q ≤ r → r < p + 1 → pl[r]? = some x → ops[x.i]? = some o → cls E o.op = .alloc → m ≠ base + x.i) → (C (p + 1)).heap.get m = (C q).heap.get m := by
        intro e'
        rw [e']
        exact ⟨h1, fun m hm => h2 m fun r x o a b => hm r x o a (by omega)⟩
      rcases hc with ⟨_, _, hc⟩ | ⟨_, ⟨_, _, hc⟩ | ⟨_, _, hc⟩ | ⟨hcl, ob, f, _, _, hc⟩ | ⟨hc, _⟩ | ⟨hc, _⟩⟩
      · exact keep hc
      · exact keep hc
      · exact keep hc
      · rw [hc]
        refine ⟨h1, fun m hm => ?_⟩
        have := hm p x o (by omega) (by omega) hx ho hcl
        simp only [Tr.get_set, if_neg this]
        exact h2 m fun r x o a b => hm r x o a (by omega)
      · rw [hc] at hnc; cases hnc
      · rw [hc] at hnc; cases hnc

include hT hF in
omit Sg in
/-- What is made where it is made. -/
theorem tra_made {p : Nat} {x : PStep} {o : Oper} (hx : pl[p]? = some x) (ho : ops[x.i]? = some o) (hn : isCh (cls E o.op) = false) (h0 : (C p).heap.get (base + x.i) = none) :
    (C (p + 1)).heap.get (base + x.i) = made E ops A p o := by
  obtain ⟨v, _, hc⟩ := tra_at hT hF hx ho
  unfold made
  rcases hc with ⟨hw, _, hc⟩ | ⟨hw, ⟨hcl, _, hc⟩ | ⟨hcl, _, hc⟩ | ⟨hcl, ob, f, ha, _, hc⟩ | ⟨hc, _⟩ | ⟨hc, _⟩⟩
  · rw [hc, if_neg (by simp [hw])]; exact h0
  · rw [hc, if_neg (by simp [hcl])]; exact h0
  · rw [hc, if_neg (by simp [hcl])]; exact h0
  · rw [hc, if_pos ⟨hcl, hw⟩, ha]; simp [Tr.get_set]
  · rw [hc] at hn; cases hn
  · rw [hc] at hn; cases hn

end

/-! ### what stands while a region runs -/
structure Stands (E : Env) (ops : Array Oper) (pl : List PStep) (A : Nat → AA) (C : Nat → St) (base : Nat) (ι0 : Inj) (s0 : St) (w0 : World) (listed : Array Bool) (ac : Act) (w : World) (q : Nat) (ι : Inj) (aE : AA) (H : St) : Prop where
  size : listed.size = ops.size
  closed : Closed ops (Lst listed)
  qle : q ≤ pl.length
  qc : q = 0 ∨ ∃ x o, pl[q - 1]? = some x ∧ ops[x.i]? = some o ∧ isCh (cls E o.op) = true
  ch : ∀ (r : Nat) (x : PStep) (o : Oper), pl[r]? = some x → ops[x.i]? = some o → isCh (cls E o.op) = true → (Lst listed x.i ↔ r < q)
  al : ∀ (r : Nat) (x : PStep) (o : Oper), pl[r]? = some x → ops[x.i]? = some o → cls E o.op = .alloc → r < q → Lst listed x.i
  ar : AR ι aE ac
  an : aE.n = (A 0).n
  ad : aE.df = (A 0).df
  tl : ∀ (r : Nat) (x : PStep) (o : Oper) (t : Nat), pl[r]? = some x → ops[x.i]? = some o → o.dst = some t → Lst listed x.i → aE.look t = (A pl.length).look t
  tu : ∀ t, (∀ (r : Nat) (x : PStep) (o : Oper), pl[r]? = some x → ops[x.i]? = some o → Lst listed x.i → o.dst ≠ some t) → aE.look t = (A 0).look t
  post : Post ι0 s0 w0 ι H w
  low : s0.next ≤ base
  next : H.next = (C q).next
  room : base + ops.size ≤ (C q).next
  un : ∀ (r : Nat) (x : PStep), pl[r]? = some x → ¬ Lst listed x.i → ι (base + x.i) = none
  g1 : ∀ (r : Nat) (x : PStep) (o : Oper), q ≤ r → pl[r]? = some x → ops[x.i]? = some o → H.heap.get (base + x.i) = if Lst listed x.i then made E ops A r o else none
  g2 : ∀ m, (∀ (r : Nat) (x : PStep), q ≤ r → pl[r]? = some x → m ≠ base + x.i) → H.heap.get m = (C q).heap.get m
  g3 : ∀ (r : Nat) (x : PStep), q ≤ r → pl[r]? = some x → (C q).heap.get (base + x.i) = none

omit Sg in
theorem lst_set {listed : Array Bool} {i j : Nat} (hi : i < listed.size) : Lst (listed.setIfInBounds i true) j ↔ (j = i ∨ Lst listed j) := by
  unfold Lst
  by_cases e : i = j
  · subst e; simp [hi]
  · rw [getD_set_ne false e]
    constructor
    · exact .inr
    · rintro (h | h)
      · exact absurd h.symm e
      · exact h

section
variable {E : Env} {P : Program} {ops : Array Oper} {pl : List PStep} {A : Nat → AA} {C : Nat → St} {callK : CallK} {base : Nat}
variable {ι0 ι : Inj} {s0 H : St} {w0 w : World} {listed : Array Bool} {ac : Act} {q : Nat} {aE : AA}
variable (hT : Tra E callK ops.toList base pl A C) (hF : PlanFacts E ops pl) (hI : Stands E ops pl A C base ι0 s0 w0 listed ac w q ι aE H)

theorem lst_edges {i : Nat} {o : Oper} (hI : Stands E ops pl A C base ι0 s0 w0 listed ac w q ι aE H) (ho : ops[i]? = some o) (h : Lst listed i) : ∀ e ∈ o.after, Region.binds .any e = true → Lst listed e.on := hI.closed i o h ho

/-- An operation that is to run sees what the plan's sees. -/
theorem sees (hT : Tra E callK ops.toList base pl A C) (hF : PlanFacts E ops pl) (hI : Stands E ops pl A C base ι0 s0 w0 listed ac w q ι aE H) {p : Nat} {x : PStep} {o : Oper} (hx : pl[p]? = some x) (ho : ops[x.i]? = some o) (hnl : ¬ Lst listed x.i) (hr : ∀ e ∈ o.after, Region.binds .any e = true → Lst listed e.on) :
    ∀ t ∈ o.looksAt ops, aE.look t = (A p).look t := by
  intro t ht
  have hp : p < pl.length := (List.getElem?_eq_some_iff.1 hx).1
  have unl : ∀ {r : Nat} {y : PStep} {oy : Oper}, pl[r]? = some y → ops[y.i]? = some oy → oy.dst = some t → ¬ Lst listed y.i → aE.look t = (A 0).look t := by
    intro r y oy hy hoy hd hn
    refine hI.tu t fun r' y' oy' hy' hoy' hl hd' => ?_
    have := uniq hF hy hy' hoy hoy' hd hd'
    subst this
    rw [hy] at hy'; cases hy'
    exact hn hl
  by_cases h : ∃ (r : Nat) (y : PStep) (oy : Oper), pl[r]? = some y ∧ ops[y.i]? = some oy ∧ oy.dst = some t
  · obtain ⟨r, y, oy, hy, hoy, hd⟩ := h
    rcases Nat.lt_trichotomy r p with hlt | heq | hgt
    · have hb := (hF.two r p y x oy o hlt hy hx hoy ho).see t hd ht
      have hl : Lst listed y.i := hb _ hI.closed o ho hr
      rw [hI.tl r y oy t hy hoy hd hl]
      exact tra_end hT hF hy hoy hd hlt (by omega)
    · subst heq
      rw [hx] at hy; cases hy
      rw [unl hx hoy hd hnl]
      exact (tra_start hT hF hx hoy hd (Nat.le_refl _) (by omega)).symm
    · have hb := ((hF.two p r x y o oy hgt hx hy ho hoy).seen t hd ht).1
      have hl : ¬ Lst listed y.i := fun hl => hnl (hb _ hI.closed oy hoy (lst_edges hI hoy hl))
      rw [unl hy hoy hd hl]
      exact (tra_start hT hF hy hoy hd (by omega) (by omega)).symm
  · rw [hI.tu t fun r y oy hy hoy _ hd => h ⟨r, y, oy, hy, hoy, hd⟩]
    exact (tra_look hT hF p (Nat.zero_le _) (by omega) fun r y oy _ _ hy hoy hd => h ⟨r, y, oy, hy, hoy, hd⟩).symm

omit Sg in
theorem eval_same {a b : AA} {o : Oper} (h : ∀ t ∈ o.looksAt ops, a.look t = b.look t) : ∀ x ∈ o.op.operands, a.eval x = b.eval x := by
  intro x hx
  cases x with
  | tmp t =>
    simp only [AA.eval]
    rw [h t]
    unfold Oper.looksAt
    refine List.mem_append.2 (.inl (List.mem_filterMap.2 ⟨.tmp t, by simpa using hx, rfl⟩))
  | _ => rfl

omit Sg in
theorem wanted_same {a b : AA} {o : Oper} (hn : a.n = b.n) (h : ∀ t ∈ o.looksAt ops, a.look t = b.look t) : wantedA ops.toList o a = wantedA ops.toList o b := by
  unfold wantedA
  cases hg : o.guard with
  | none => rfl
  | some gw =>
    obtain ⟨j, want⟩ := gw
    simp only
    cases hj : ops.toList[j]? with
    | none => rfl
    | some oj =>
      simp only
      cases hd : oj.dst with
      | none => rfl
      | some d =>
        simp only
        rw [hn, h d]
        unfold Oper.looksAt
        refine List.mem_append.2 (.inr ?_)
        simp only [hg]
        have : ops[j]? = some oj := by simpa using hj
        rw [this]
        simp [hd]

/-- Where nothing that may write stands between. -/
theorem inv_at (hT : Tra E callK ops.toList base pl A C) (hF : PlanFacts E ops pl) (hI : Stands E ops pl A C base ι0 s0 w0 listed ac w q ι aE H) {p : Nat} (hq : q ≤ p) (hp : p ≤ pl.length)
    (hch : ∀ r x o, q ≤ r → r < p → pl[r]? = some x → ops[x.i]? = some o → isCh (cls E o.op) = false)
    (hal : ∀ r x o, r < p → pl[r]? = some x → ops[x.i]? = some o → cls E o.op = .alloc → Lst listed x.i) :
    (C p).next = H.next ∧ (∀ r x, p ≤ r → pl[r]? = some x → (C p).heap.get (base + x.i) = none) ∧ (∀ m, (∀ r x, p ≤ r → pl[r]? = some x → m ≠ base + x.i) → (C p).heap.get m = H.heap.get m) := by
  obtain ⟨h1, h2⟩ := tra_heap hT hF p hq hp hch
  refine ⟨by rw [h1, hI.next], fun r x hr hx => ?_, fun m hm => ?_⟩
  · obtain ⟨o, ho⟩ := tra_op hT hx
    rw [h2, hI.g3 r x (by omega) hx]
    intro r' x' o' h3 h4 hx' ho' _ e
    have := uniqi hF hx hx' ho ho' (by omega)
    omega
  · by_cases hex : ∃ r x, q ≤ r ∧ r < p ∧ pl[r]? = some x ∧ m = base + x.i
    · obtain ⟨r, x, hr1, hr2, hx, rfl⟩ := hex
      obtain ⟨o, ho⟩ := tra_op hT hx
      have hno : ∀ r' x' o', r' ≠ r → pl[r']? = some x' → ops[x'.i]? = some o' → base + x.i ≠ base + x'.i := by
        intro r' x' o' hne hx' ho' e
        exact hne (uniqi hF hx' hx ho' ho (by omega))
      have hcr := hch r x o hr1 hr2 hx ho
      obtain ⟨_, h4⟩ := tra_heap hT hF r hr1 (by omega) fun r' x' o' a b => hch r' x' o' a (by omega)
      obtain ⟨_, h5⟩ := tra_heap hT hF (q := r + 1) p (by omega) hp fun r' x' o' a b => hch r' x' o' (by omega) b
      rw [h5 _ fun r' x' o' a b hx' ho' _ => hno r' x' o' (by omega) hx' ho', tra_made hT hF hx ho hcr ?_, hI.g1 r x o hr1 hx ho]
      · by_cases hl : Lst listed x.i
        · rw [if_pos hl]
        · rw [if_neg hl]
          unfold made
          rw [if_neg]
          rintro ⟨hc, _⟩
          exact hl (hal r x o hr2 hx ho hc)
      · rw [h4 _ fun r' x' o' a b hx' ho' _ => hno r' x' o' (by omega) hx' ho']
        exact hI.g3 r x hr1 hx
    · rw [h2 m fun r x o a b hx ho _ e => hex ⟨r, x, a, b, hx, e⟩]
      refine (hI.g2 m fun r x hr hx e => ?_).symm
      by_cases hlt : r < p
      · exact hex ⟨r, x, hr, hlt, hx, e⟩
      · exact hm r x (by omega) hx e

end
end Go.Sh
