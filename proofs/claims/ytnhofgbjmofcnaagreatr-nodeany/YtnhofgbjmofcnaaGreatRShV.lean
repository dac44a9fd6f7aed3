/-
  A shadow interpreter for the model's operations: plans looked over. (No program in it.)
-/
import Derived.Test.YtnhofgbjmofcnaaGreatRShU
namespace Go.Sh
open Go

variable [Sg : Sig]

def memN (x : Nat) : List Nat → Bool
  | [] => false
  | y :: ys => cond (Nat.beq x y) true (memN x ys)

omit Sg in
theorem memN_mem {x : Nat} : ∀ {l : List Nat}, memN x l = true ↔ x ∈ l
  | [] => by simp [memN]
  | y :: ys => by
    simp only [memN, List.mem_cons]
    cases h : Nat.beq x y with
    | true => simp [Nat.eq_of_beq_eq_true h]
    | false =>
      have : x ≠ y := by intro e; subst e; simp at h
      simp [this, memN_mem]

def edgesOf (o : Oper) : List Nat := (o.after.toList.filter (Region.binds .any)).map (·.on)

def uniN : List Nat → List Nat → List Nat
  | [], r => r
  | x :: xs, r => cond (memN x r) (uniN xs r) (uniN xs (x :: r))

def befRow (acc : List (List Nat)) : List Nat → List Nat → List Nat
  | [], r => r
  | e :: es, r => befRow acc es (uniN (e :: (acc[e]?).getD []) r)

def befTab : List Oper → List (List Nat) → List (List Nat)
  | [], acc => acc
  | o :: os, acc => befTab os (acc ++ [befRow acc (edgesOf o) []])

def isRd : Cls → Bool
  | .read => true
  | _ => false

def isAl : Cls → Bool
  | .alloc => true
  | _ => false

def isDf : Cls → Bool
  | .dfr => true
  | _ => false

def oneB (E : Env) (ops : Array Oper) (o : Oper) : Bool :=
  !isDf (cls E o.op) && cond (isRd (cls E o.op)) (match o.dst with
    | some t => !memN t (o.looksAt ops)
    | none => true) true

def seeB (o : Option Nat) (l : List Nat) (b : Bool) : Bool := match o with
  | some t => cond (memN t l) b true
  | none => true

def dstB (a b : Option Nat) : Bool := match a, b with
  | some x, some y => !Nat.beq x y
  | _, _ => true

def twoB (E : Env) (ops : Array Oper) (tab : List (List Nat)) (x y : PStep) (ox oy : Oper) : Bool :=
  let b := memN x.i ((tab[y.i]?).getD [])
  let cx := cls E ox.op
  let cy := cls E oy.op
  !Nat.beq x.i y.i && dstB ox.dst oy.dst && seeB ox.dst (oy.looksAt ops) b && seeB oy.dst (ox.looksAt ops) (b && !isRd cx) &&
    cond (isCh cx && isCh cy) b true && cond (isAl cx && (isRd cy || isCh cy)) b true && cond (isCh cx && isRd cy) b true &&
    cond (isRd cx && isCh cy) (b || memN x.i y.again) true

def pairsB {α : Type} (f : α → α → Bool) : List α → Bool
  | [] => true
  | x :: xs => xs.all (f x) && pairsB f xs

def resolveP (ops : List Oper) : List PStep → Option (List (PStep × Oper))
  | [] => some []
  | x :: xs => match ops[x.i]?, resolveP ops xs with
    | some o, some r => some ((x, o) :: r)
    | _, _ => none

def downB : List Oper → Nat → Bool
  | [], _ => true
  | o :: os, k => (edgesOf o).all (fun e => Nat.blt e k) && downB os (k + 1)

def planB (E : Env) (ops : Array Oper) (pl : List PStep) : Bool :=
  match resolveP ops.toList pl with
  | none => false
  | some r =>
    let tab := befTab ops.toList []
    Nat.beq pl.length ops.size && (List.range ops.size).all (fun i => pl.any fun x => Nat.beq x.i i) && r.all (fun y => oneB E ops y.2) &&
      pairsB (fun a b => twoB E ops tab a.1 b.1 a.2 b.2) r && downB ops.toList 0

/-! ### what it shows -/
omit Sg in
theorem mem_edgesOf {o : Oper} {x : Nat} : x ∈ edgesOf o ↔ ∃ e ∈ o.after, Region.binds .any e = true ∧ e.on = x := by
  unfold edgesOf
  simp [List.mem_map, List.mem_filter]
  constructor
  · rintro ⟨e, ⟨h1, h2⟩, h3⟩; exact ⟨e, h1, h2, h3⟩
  · rintro ⟨e, h1, h2, h3⟩; exact ⟨e, ⟨h1, h2⟩, h3⟩

omit Sg in
theorem uniN_mem {x : Nat} : ∀ {l r : List Nat}, x ∈ uniN l r → x ∈ l ∨ x ∈ r
  | [], r, h => .inr h
  | y :: ys, r, h => by
    simp only [uniN] at h
    cases hm : memN y r with
    | true =>
      rw [hm] at h; simp only [cond_true] at h
      rcases uniN_mem h with h | h
      · exact .inl (by simp [h])
      · exact .inr h
    | false =>
      rw [hm] at h; simp only [cond_false] at h
      rcases uniN_mem h with h | h
      · exact .inl (by simp [h])
      · rcases List.mem_cons.1 h with h | h
        · exact .inl (by simp [h])
        · exact .inr h

def TabOk (ops : Array Oper) (acc : List (List Nat)) : Prop := ∀ j row, acc[j]? = some row → j < ops.size ∧ ∀ x ∈ row, Bef ops x j

omit Sg in
theorem befRow_ok {ops : Array Oper} {acc : List (List Nat)} (hacc : TabOk ops acc) {j : Nat} {o : Oper} (ho : ops[j]? = some o) : ∀ {es r : List Nat}, (∀ e ∈ es, e ∈ edgesOf o) → (∀ x ∈ r, Bef ops x j) →
    ∀ x ∈ befRow acc es r, Bef ops x j
  | [], r, _, hr, x, hx => hr x hx
  | e :: es, r, he, hr, x, hx => by
    simp only [befRow] at hx
    have hej : Bef ops e j := by
      intro L hL oj hoj hed
      rw [ho] at hoj; cases hoj
      obtain ⟨ed, h1, h2, h3⟩ := mem_edgesOf.1 (he e (by simp))
      rw [← h3]; exact hed ed h1 h2
    refine befRow_ok hacc ho (fun e' h' => he e' (by simp [h'])) ?_ x hx
    intro y hy
    rcases uniN_mem hy with h | h
    · rcases List.mem_cons.1 h with h | h
      · rw [h]; exact hej
      · cases hrow : acc[e]? with
        | none => rw [hrow] at h; simp at h
        | some row =>
          rw [hrow] at h
          obtain ⟨hlt, hb⟩ := hacc e row hrow
          intro L hL oj hoj hed
          have hle := hej L hL oj hoj hed
          have hoe : ops[e]? = some ops[e] := by simp [hlt]
          exact hb y h L hL ops[e] hoe (hL e _ hle hoe)
    · exact hr y h

omit Sg in
theorem befTab_ok {ops : Array Oper} : ∀ (l : List Oper) (acc : List (List Nat)), (∀ j, l[j]? = ops[acc.length + j]?) → TabOk ops acc → TabOk ops (befTab l acc)
  | [], acc, _, h => h
  | o :: os, acc, hl, h => by
    simp only [befTab]
    have ho : ops[acc.length]? = some o := by have := hl 0; simpa using this.symm
    refine befTab_ok os _ (fun j => ?_) ?_
    · have := hl (j + 1)
      simp only [List.getElem?_cons_succ] at this
      rw [this]; simp; congr 1; omega
    · intro j row hj
      by_cases hlt : j < acc.length
      · rw [List.getElem?_append_left hlt] at hj
        exact h j row hj
      · have hje : j = acc.length := by
          have := (List.getElem?_eq_some_iff.1 hj).1
          simp at this; omega
        subst hje
        simp at hj
        subst hj
        exact ⟨(Array.getElem?_eq_some_iff.1 ho).1, befRow_ok h ho (fun _ h => h) (by simp)⟩

omit Sg in
theorem pairsB_spec {α : Type} {f : α → α → Bool} : ∀ {l : List α}, pairsB f l = true → ∀ {p r : Nat} {x y : α}, p < r → l[p]? = some x → l[r]? = some y → f x y = true
  | [], _, p, r, x, y, _, hx, _ => by simp at hx
  | z :: zs, h, p, r, x, y, hpr, hx, hy => by
    simp only [pairsB, Bool.and_eq_true] at h
    cases r with
    | zero => omega
    | succ r =>
      simp only [List.getElem?_cons_succ] at hy
      cases p with
      | zero =>
        simp only [List.getElem?_cons_zero, Option.some.injEq] at hx
        subst hx
        exact List.all_eq_true.1 h.1 y (List.mem_of_getElem? hy)
      | succ p =>
        simp only [List.getElem?_cons_succ] at hx
        exact pairsB_spec h.2 (by omega) hx hy

omit Sg in
theorem resolveP_spec {ops : List Oper} : ∀ {pl : List PStep} {r : List (PStep × Oper)}, resolveP ops pl = some r → ∀ {p : Nat} {x : PStep} {o : Oper}, pl[p]? = some x → ops[x.i]? = some o → r[p]? = some (x, o)
  | [], r, _, p, x, o, hx, _ => by simp at hx
  | z :: zs, r, h, p, x, o, hx, ho => by
    simp only [resolveP] at h
    cases h1 : ops[z.i]? with
    | none => rw [h1] at h; cases h
    | some oz => cases h2 : resolveP ops zs with
      | none => rw [h1, h2] at h; cases h
      | some rs =>
        rw [h1, h2] at h; cases h
        cases p with
        | zero =>
          simp only [List.getElem?_cons_zero, Option.some.injEq] at hx ⊢
          subst hx
          rw [h1] at ho; cases ho; rfl
        | succ p =>
          simp only [List.getElem?_cons_succ] at hx ⊢
          exact resolveP_spec h2 hx ho

omit Sg in
theorem downB_spec : ∀ {l : List Oper} {k : Nat}, downB l k = true → ∀ {j : Nat} {o : Oper}, l[j]? = some o → ∀ e ∈ edgesOf o, e < k + j
  | [], _, _, j, o, ho, _, _ => by simp at ho
  | z :: zs, k, h, j, o, ho, e, he => by
    simp only [downB, Bool.and_eq_true] at h
    cases j with
    | zero =>
      simp only [List.getElem?_cons_zero, Option.some.injEq] at ho
      subst ho
      have := blt_lt (List.all_eq_true.1 h.1 e he)
      omega
    | succ j =>
      simp only [List.getElem?_cons_succ] at ho
      have := downB_spec h.2 ho e he
      omega

omit Sg in
theorem seeB_spec {o : Option Nat} {l : List Nat} {b : Bool} (h : seeB o l b = true) {t : Nat} (ht : o = some t) (hm : t ∈ l) : b = true := by
  subst ht
  simp only [seeB] at h
  rw [memN_mem.2 hm] at h
  exact h

omit Sg in
theorem planB_facts {E : Env} {ops : Array Oper} {pl : List PStep} (h : planB E ops pl = true) : PlanFacts E ops pl := by
  unfold planB at h
  cases hr : resolveP ops.toList pl with
  | none => rw [hr] at h; cases h
  | some r =>
    rw [hr] at h
    simp only [Bool.and_eq_true] at h
    obtain ⟨⟨⟨⟨h1, h2⟩, h3⟩, h4⟩, h5⟩ := h
    have htab : TabOk ops (befTab ops.toList []) := befTab_ok ops.toList [] (fun j => by simp) (fun j row hj => by simp at hj)
    have get : ∀ {p : Nat} {x : PStep} {o : Oper}, pl[p]? = some x → ops[x.i]? = some o → r[p]? = some (x, o) := fun hx ho => resolveP_spec hr hx (by simpa using ho)
    have bef : ∀ {i j : Nat}, memN i (((befTab ops.toList [])[j]?).getD []) = true → Bef ops i j := by
      intro i j hm
      rw [memN_mem] at hm
      cases hj : (befTab ops.toList [])[j]? with
      | none => rw [hj] at hm; simp at hm
      | some row => rw [hj] at hm; exact (htab j row hj).2 i hm
    refine ⟨Nat.eq_of_beq_eq_true h1, ?_, ?_, ?_, ?_⟩
    · intro i hi
      have := List.all_eq_true.1 h2 i (List.mem_range.2 hi)
      obtain ⟨x, hx, he⟩ := List.any_eq_true.1 this
      obtain ⟨p, hp⟩ := List.mem_iff_getElem?.1 hx
      exact ⟨p, x, hp, Nat.eq_of_beq_eq_true he⟩
    · intro p x o hx ho
      have := List.all_eq_true.1 h3 (x, o) (List.mem_of_getElem? (get hx ho))
      simp only [oneB, Bool.and_eq_true] at this
      refine ⟨fun e => ?_, fun e t ht hm => ?_⟩
      · rw [e] at this; simp [isDf] at this
      · have h' := this.2
        rw [e, ht] at h'
        simp only [isRd, cond_true] at h'
        rw [memN_mem.2 hm] at h'
        cases h'
    · intro p r' x y ox oy hpr hx hy hox hoy
      have := pairsB_spec h4 hpr (get hx hox) (get hy hoy)
      simp only [twoB, Bool.and_eq_true] at this
      obtain ⟨⟨⟨⟨⟨⟨⟨g1, g2⟩, g3⟩, g4⟩, g5⟩, g6⟩, g7⟩, g8⟩ := this
      refine ⟨?_, ?_, ?_, ?_, ?_, ?_, ?_, ?_⟩
      · intro e; rw [e] at g1; simp at g1
      · intro t ht ht'
        rw [ht, ht'] at g2
        simp [dstB] at g2
      · intro t ht hm
        exact bef (seeB_spec g3 ht hm)
      · intro t ht hm
        have := seeB_spec g4 ht hm
        simp only [Bool.and_eq_true] at this
        refine ⟨bef this.1, fun e => ?_⟩
        rw [e] at this; simp [isRd] at this
      · intro e1 e2
        rw [e1, e2] at g5
        exact bef g5
      · intro e1 e2
        rw [e1] at g6
        refine bef ?_
        rcases e2 with e2 | e2
        · rw [e2] at g6; exact g6
        · rw [e2] at g6; simpa [isAl] using g6
      · intro e1 e2
        rw [e1, e2] at g7
        exact bef g7
      · intro e1 e2
        rw [e1, e2] at g8
        simp only [isRd, Bool.and_self, cond_true, Bool.or_eq_true] at g8
        rcases g8 with g | g
        · exact .inl (bef g)
        · exact .inr (memN_mem.1 g)
    · intro j o ho e he hb
      have := downB_spec h5 (j := j) (o := o) (by simpa using ho) e.on (mem_edgesOf.2 ⟨e, he, hb, rfl⟩)
      omega

end Go.Sh
