/-
  A shadow interpreter for the model's operations: a run from nothing, as a contract. (No program in it.)
-/
import Derived.Test.YtnhofgbjmofcnaaGreatRShY
namespace Go.Sh
open Go

variable [Sg : Sig]

/-! ### values with no address -/
def flatV : Value → Bool
  | .int _ _ => true
  | .bool _ => true
  | .string _ => true
  | .complex _ _ _ => true
  | _ => false

def argV : Value → Bool
  | .agg cs => allV flatV cs.toList
  | v => flatV v

def realF : Value → Value
  | .complex _ n _ => Sg.sym n
  | v => v

def realA : Value → Value
  | .agg cs => .agg ⟨cs.toList.map realF⟩
  | v => realF v

theorem VR.flat {ι : Inj} {v v' : Value} (h : VR ι v v') (hf : flatV v = true) : v' = realF v := by
  cases h <;> first | rfl | cases hf

theorem VR.of_flat {ι : Inj} {v : Value} (hf : flatV v = true) : VR ι v (realF v) := by
  cases v <;> first | (cases hf; done) | skip
  · exact .bool _
  · exact .int _ _
  · exact .sym _ _ _
  · exact .string _

theorem LR.flats {ι : Inj} : ∀ {l l' : List Value}, LR ι l l' → allV flatV l = true → l' = l.map realF
  | [], _, h, _ => by cases h; rfl
  | v :: l, _, h, hf => by
    cases h with
    | cons _ y _ ys hv hl =>
      simp only [allV, Bool.and_eq_true] at hf
      rw [hv.flat hf.1, LR.flats hl hf.2]; rfl

theorem LR.of_flats {ι : Inj} : ∀ {l : List Value}, allV flatV l = true → LR ι l (l.map realF)
  | [], _ => .nil
  | v :: l, hf => by
    simp only [allV, Bool.and_eq_true] at hf
    exact .cons _ _ _ _ (.of_flat hf.1) (LR.of_flats hf.2)

theorem VR.arg {ι : Inj} {v v' : Value} (h : VR ι v v') (hf : argV v = true) : v' = realA v := by
  cases h with
  | agg xs ys h => simp only [realA]; rw [h.flats hf]
  | any k n v h => cases hf
  | sym k n m => rfl
  | _ => first | rfl | cases hf

theorem VR.of_arg {ι : Inj} {v : Value} (hf : argV v = true) : VR ι v (realA v) := by
  cases v with
  | agg cs => exact .agg cs.toList _ (.of_flats hf)
  | _ => first | exact .of_flat hf | cases hf

theorem LR.args {ι : Inj} : ∀ {l l' : List Value}, LR ι l l' → allV argV l = true → l' = l.map realA
  | [], _, h, _ => by cases h; rfl
  | v :: l, _, h, hf => by
    cases h with
    | cons _ y _ ys hv hl =>
      simp only [allV, Bool.and_eq_true] at hf
      rw [hv.arg hf.1, LR.args hl hf.2]; rfl

theorem LR.of_args {ι : Inj} : ∀ {l : List Value}, allV argV l = true → LR ι l (l.map realA)
  | [], _ => .nil
  | v :: l, hf => by
    simp only [allV, Bool.and_eq_true] at hf
    exact .cons _ _ _ _ (.of_arg hf.1) (LR.of_args hf.2)

/-! ### names moved, values forgotten -/
def shV (d : Nat) : Value → Value
  | .pointer (some a) => .pointer (some ⟨d + a.block, a.off, a.spot⟩)
  | .slice (some a) l c => .slice (some ⟨d + a.block, a.off, a.spot⟩) l c
  | .map (some n) => .map (some (d + n))
  | .chan (some n) => .chan (some (d + n))
  | v => v

def flatR : Value → Bool
  | .agg _ => false
  | .tuple _ => false
  | .func _ _ _ => false
  | .iface _ _ => false
  | _ => true

theorem VR.shift {ι ι' : Inj} {d : Nat} (hx : ∀ n ni, ι n = some ni → ι' (d + n) = some ni) {v v' : Value} (h : VR ι v v') (hf : flatR v = true) : VR ι' (shV d v) v' := by
  cases h with
  | bool b => exact .bool b
  | int k n => exact .int k n
  | any k n _ h => exact .any k n _ h
  | sym k n m => exact .sym k n m
  | string s => exact .string s
  | pnil => exact .pnil
  | ptr n off ni h => exact .ptr (d + n) off ni (hx n ni h)
  | snil l c => exact .snil l c
  | slice n off len cap cap' ni h hc hle => exact .slice (d + n) off len cap cap' ni (hx n ni h) hc hle
  | szero a a' => exact .szero _ a'
  | mnil => exact .mnil
  | map n ni h => exact .map (d + n) ni (hx n ni h)
  | cnil => exact .cnil
  | chan n ni h => exact .chan (d + n) ni (hx n ni h)
  | nilFunc => exact .nilFunc
  | nilIface => exact .nilIface
  | _ => cases hf

theorem VR.isWord {ι : Inj} {v v' : Value} (h : VR ι v v') (hf : isWord v = true) : isWord v' = true := by
  cases h <;> first | rfl | assumption | exact Sg.word _ | cases hf

/-- A value, and what is kept of it. al: which numbers stand for which values. -/
def wkF (al : Nat → Value → Bool) (v u : Value) : Bool := match u with
  | .float _ _ => isWord v
  | .complex k n m => sameV v (.complex k n m) || al n v
  | u => sameV v u && flatR u

def wkL (al : Nat → Value → Bool) : List Value → List Value → Bool
  | [], [] => true
  | v :: vs, u :: us => wkF al v u && wkL al vs us
  | _, _ => false

def AlOk (al : Nat → Value → Bool) : Prop := ∀ n v, al n v = true → (∃ k a, v = .int k a) ∧ Sg.sym n = v

theorem wkF_VR {al : Nat → Value → Bool} (hal : AlOk al) {ι : Inj} {v v' u : Value} (h : VR ι v v') (hw : wkF al v u = true) : VR ι u v' ∧ flatR u = true := by
  have same : ∀ u, (sameV v u && flatR u) = true → VR ι u v' ∧ flatR u = true := by
    intro u hu
    simp only [Bool.and_eq_true] at hu
    have := sameV_eq hu.1
    subst this
    exact ⟨h, hu.2⟩
  cases u with
  | float k n => exact ⟨.any k n v' (h.isWord hw), rfl⟩
  | complex k n m =>
    simp only [wkF, Bool.or_eq_true] at hw
    refine ⟨?_, rfl⟩
    rcases hw with hw | hw
    · have := sameV_eq hw
      subst this
      exact h
    · obtain ⟨⟨k', a, rfl⟩, hs⟩ := hal n v hw
      cases h
      rw [← hs]
      exact .sym k n m
  | _ => exact same _ hw

theorem wkL_LR {al : Nat → Value → Bool} (hal : AlOk al) {ι ι' : Inj} {d : Nat} (hx : ∀ n ni, ι n = some ni → ι' (d + n) = some ni) : ∀ {vs us ws : List Value}, LR ι vs ws → wkL al vs us = true → LR ι' (us.map (shV d)) ws
  | [], [], _, h, _ => by cases h; exact .nil
  | v :: vs, u :: us, _, h, hw => by
    cases h with
    | cons _ y _ ys hv hl =>
      simp only [wkL, Bool.and_eq_true] at hw
      obtain ⟨h1, h2⟩ := wkF_VR hal hv hw.1
      exact .cons _ _ _ _ (h1.shift hx h2) (wkL_LR hal hx hl hw.2)
  | [], _ :: _, _, _, hw => by cases hw
  | _ :: _, [], _, _, hw => by cases hw

/-! ### the run's outcome -/
/-- What is kept of a run: its value, the rows, how many names. -/
structure Kept where
  vals : List Value
  rows : List (Nat × List Value)
  next : Nat

def keptOk (al : Nat → Value → Bool) (k : Kept) (r : Option (Value × St)) : Bool := match r with
  | some (v, s) => Nat.beq s.next k.next && (match v, k.vals with
      | .tuple vs, us => wkL al vs.toList us && cond (match us with | [_] => true | _ => false) false true
      | v, [u] => wkF al v u
      | _, _ => false) && k.rows.all (fun p => match s.heap.get p.1 with
        | some (.cells cs none false) => wkL al cs p.2
        | _ => false)
  | none => false

def Kept.value (k : Kept) (d : Nat) : Value := oneOr (k.vals.map (shV d))

def Kept.state (k : Kept) (s : St) : St :=
  { heap := k.rows.foldl (fun t p => t.set (s.next + p.1) (.cells (p.2.map (shV s.next)) none false)) s.heap, next := s.next + k.next }

omit Sg in
theorem kept_get {s : St} : ∀ (rows : List (Nat × List Value)) (t : Tr AObj) (m : Nat) (o : AObj), (rows.foldl (fun t p => t.set (s.next + p.1) (.cells (p.2.map (shV s.next)) none false)) t).get m = some o →
    t.get m = some o ∧ (∀ p ∈ rows, m ≠ s.next + p.1) ∨ ∃ p ∈ rows, m = s.next + p.1 ∧ o = .cells (p.2.map (shV s.next)) none false
  | [], t, m, o, h => .inl ⟨h, by simp⟩
  | p :: rows, t, m, o, h => by
    rcases kept_get rows _ m o h with ⟨h1, h2⟩ | ⟨q, hq, h1, h2⟩
    · rw [Tr.get_set] at h1
      by_cases e : m = s.next + p.1
      · rw [if_pos e] at h1; cases h1
        exact .inr ⟨p, by simp, e, rfl⟩
      · rw [if_neg e] at h1
        refine .inl ⟨h1, fun q hq => ?_⟩
        rcases List.mem_cons.1 hq with rfl | hq
        · exact e
        · exact h2 q hq
    · exact .inr ⟨q, by simp [hq], h1, h2⟩

omit Sg in
theorem kept_low {s : St} : ∀ (rows : List (Nat × List Value)) (t : Tr AObj) (m : Nat), m < s.next → (rows.foldl (fun t p => t.set (s.next + p.1) (.cells (p.2.map (shV s.next)) none false)) t).get m = t.get m
  | [], t, m, _ => rfl
  | p :: rows, t, m, h => by
    rw [List.foldl_cons, kept_low rows _ m h, Tr.get_set, if_neg (by omega)]

theorem fresh_ok {P : Program} {callK : CallK} (hc : CallsOk P callK) {al : Nat → Value → Bool} (hal : AlOk al) {g : FuncId} {args argsN : List Value} {k : Kept} (hr : keptOk al k (callK g argsN ⟨.leaf, 0⟩) = true)
    (ha : allV argV args = true) (haN : allV argV argsN = true) (heq : argsN.map realA = args.map realA)
    {ι : Inj} {s : St} {w : World} {ws : List Value} (hs : SR ι s w) (hl : LR ι args ws) :
    Calls P g ⟨ws⟩ w fun e w' => ∃ ι' v', e = .returned v' ∧ VR ι' (k.value s.next) v' ∧ Post ι s w ι' (k.state s) w' := by
  cases hrun : callK g argsN ⟨.leaf, 0⟩ with
  | none => rw [hrun] at hr; cases hr
  | some r =>
    obtain ⟨v1, s1⟩ := r
    rw [hrun] at hr
    simp only [keptOk, Bool.and_eq_true] at hr
    obtain ⟨⟨hn, hv⟩, hrows⟩ := hr
    have hn := Nat.eq_of_beq_eq_true hn
    have hws : ws = argsN.map realA := by rw [hl.args ha, heq]
    have hl0 : LR (fun _ => none) argsN ws := by rw [hws]; exact LR.of_args haN
    have hs0 : SR (fun _ => none) ⟨.leaf, 0⟩ w := ⟨fun n o h => (by rw [Tr.get_leaf] at h; cases h), fun n m o p ni mi h => (by rw [Tr.get_leaf] at h; cases h), fun n ni h => (by cases h)⟩
    refine (hc g argsN ⟨.leaf, 0⟩ v1 s1 hrun _ w ws hs0 hl0).mono ?_
    rintro e w' ⟨ι1, v', rfl, hvr, hp⟩
    have hbig : ∀ n o ni, s1.heap.get n = some o → ι1 n = some ni → w.heap.size ≤ ni.blk := by
      intro n o ni h1 h2
      rcases hp.blk n o ni h1 h2 with h | ⟨m, p, mi, h, _⟩
      · exact h
      · rw [Tr.get_leaf] at h; cases h
    have hkeep : ∀ b, b < w.heap.size → w'.heap[b]? = w.heap[b]? := fun b hb => hp.frame b hb fun n o ni h => by rw [Tr.get_leaf] at h; cases h
    let ι' : Inj := fun m => if m < s.next then ι m else ι1 (m - s.next)
    have hlow : ∀ m, m < s.next → ι' m = ι m := fun m hm => if_pos hm
    have hhigh : ∀ n, ι' (s.next + n) = ι1 n := fun n => by
      show (if s.next + n < s.next then _ else _) = _
      rw [if_neg (by omega)]; congr 1; omega
    have hx : ∀ n ni, ι1 n = some ni → ι' (s.next + n) = some ni := fun n ni h => by rw [hhigh]; exact h
    have hext : Ext ι ι' := fun n ni h => by rw [hlow n (hs.fresh n ni h)]; exact h
    have hsn : ∀ m o, s.heap.get m = some o → m < s.next := fun m o h => let ⟨ni, h1, _⟩ := hs.obj m o h; hs.fresh m ni h1
    have hcase : ∀ m o, (k.state s).heap.get m = some o → (m < s.next ∧ s.heap.get m = some o) ∨ ∃ n cs cs1, m = s.next + n ∧ o = .cells (cs.map (shV s.next)) none false ∧ s1.heap.get n = some (.cells cs1 none false) ∧ wkL al cs1 cs = true := by
      intro m o h
      rcases kept_get k.rows s.heap m o h with ⟨h1, _⟩ | ⟨p, hp1, h1, h2⟩
      · exact .inl ⟨hsn m o h1, h1⟩
      · have := List.all_eq_true.1 hrows p hp1
        cases hg : s1.heap.get p.1 with
        | none => rw [hg] at this; cases this
        | some ob =>
          rw [hg] at this
          cases ob <;> (try simp only at this) <;> (try (cases this; done))
          rename_i cs1 esz ro
          cases esz <;> cases ro <;> (try simp only at this) <;> (try (cases this; done))
          exact .inr ⟨p.1, p.2, cs1, h1, h2, hg, this⟩
    refine ⟨ι', v', rfl, ?_, ⟨hext, ⟨?_, ?_, ?_⟩, hp.size, fun b hb _ => hkeep b hb, ?_, hp.calm, Nat.le_add_right _ _, ?_, ?_, ?_⟩⟩
    · cases v1 <;> (try simp only at hv)
      case tuple vs =>
        simp only [Bool.and_eq_true] at hv
        cases hvr with
        | tuple xs ys hl =>
          have := wkL_LR hal hx hl hv.1
          unfold Kept.value
          cases hk : k.vals with
          | nil => rw [hk] at this; exact .tuple _ _ this
          | cons u us =>
            cases us with
            | nil => rw [hk] at hv; simp at hv
            | cons u2 us => rw [hk] at this; exact .tuple _ _ this
      all_goals
        cases hk : k.vals with
        | nil => rw [hk] at hv; cases hv
        | cons u us =>
          cases us with
          | cons u2 us => rw [hk] at hv; cases hv
          | nil =>
            rw [hk] at hv
            obtain ⟨h1, h2⟩ := wkF_VR hal hvr hv
            unfold Kept.value
            rw [hk]
            exact h1.shift hx h2
    · intro m o hm
      rcases hcase m o hm with ⟨h1, h2⟩ | ⟨n, cs, cs1, rfl, rfl, h3, h4⟩
      · obtain ⟨ni, h3, h4⟩ := hs.obj m o h2
        exact ⟨ni, by rw [hlow m h1]; exact h3, h4.mono hext (hkeep _ h4.blk)⟩
      · obtain ⟨ni, h5, h6⟩ := hp.rel.obj n _ h3
        refine ⟨ni, hx n ni h5, ?_⟩
        obtain ⟨c, e, fr, g1, g2, g3, g4, g5, g6⟩ := h6
        have := wkL_LR hal hx g5 h4
        refine ⟨c, e, fr, g1, ?_, g3, g4, this, g6⟩
        rw [this.length, ← g5.length]; exact g2
    · intro a b p q ai bi ha hb hai hbi hab
      rcases hcase a p ha with ⟨h1, h2⟩ | ⟨n, cs, cs1, rfl, rfl, h3, h4⟩
      · rw [hlow a h1] at hai
        obtain ⟨ai', g1, g2⟩ := hs.obj a p h2
        rw [hai] at g1; cases g1
        have hlt := g2.blk
        rcases hcase b q hb with ⟨h5, h6⟩ | ⟨n', cs', cs1', rfl, rfl, h7, h8⟩
        · rw [hlow b h5] at hbi
          exact hs.inj a b p q ai bi h2 h6 hai hbi hab
        · rw [hhigh] at hbi
          have := hbig n' _ bi h7 hbi
          omega
      · rw [hhigh] at hai
        have hge := hbig n _ ai h3 hai
        rcases hcase b q hb with ⟨h5, h6⟩ | ⟨n', cs', cs1', rfl, rfl, h7, h8⟩
        · rw [hlow b h5] at hbi
          obtain ⟨bi', g1, g2⟩ := hs.obj b q h6
          rw [hbi] at g1; cases g1
          have := g2.blk
          omega
        · rw [hhigh] at hbi
          have := hp.rel.inj n n' _ _ ai bi h3 h7 hai hbi hab
          omega
    · intro m ni hm
      show m < s.next + k.next
      by_cases h : m < s.next
      · omega
      · have : ι1 (m - s.next) = some ni := by have := hm; simp only [ι', if_neg h] at this; exact this
        have := hp.rel.fresh _ _ this
        omega
    · intro m o ni hm ho hni
      rcases hcase m o hm with ⟨h1, h2⟩ | ⟨n, cs, cs1, rfl, rfl, h3, h4⟩
      · rw [hlow m h1] at hni
        exact .inr ⟨m, o, ni, h2, ho, hni, rfl⟩
      · rw [hhigh] at hni
        exact .inl (hbig n _ ni h3 hni)
    · intro m o hm
      rcases hcase m o hm with ⟨h1, h2⟩ | ⟨n, cs, cs1, rfl, rfl, h3, h4⟩
      · exact .inl ⟨o, h2⟩
      · exact .inr (by omega)
    · intro m ni hm
      by_cases h : m < s.next
      · rw [hlow m h] at hm; exact .inl hm
      · exact .inr (by omega)
    · intro m o ni hm hni
      rcases hcase m o hm with ⟨h1, h2⟩ | ⟨n, cs, cs1, rfl, rfl, h3, h4⟩
      · rw [hlow m h1] at hni
        exact .inr ⟨m, o, ni, h2, hni, rfl⟩
      · rw [hhigh] at hni
        exact .inl (hbig n _ ni h3 hni)

/-- A function's contract at some arguments: of a run from nothing. -/
def Kept.prim (k : Kept) (args : List Value) (as : List Value) (s : St) : Option (Value × St) :=
  cond (sameL sameV as args) (some (k.value s.next, k.state s)) none

theorem fresh_prim {P : Program} {callK : CallK} (hc : CallsOk P callK) {al : Nat → Value → Bool} (hal : AlOk al) {g : FuncId} {args argsN : List Value} {k : Kept} (hr : keptOk al k (callK g argsN ⟨.leaf, 0⟩) = true)
    (ha : allV argV args = true) (haN : allV argV argsN = true) (heq : argsN.map realA = args.map realA) : PrimOk P g (k.prim args) := by
  intro as s v s' h ι w ws hs hl
  unfold Kept.prim at h
  cases hsame : sameL sameV as args with
  | false => rw [hsame] at h; cases h
  | true =>
    rw [hsame] at h; simp only [cond_true] at h; cases h
    have := sameL_eq (fun x y h => sameV_eq h) hsame
    subst this
    exact fresh_ok hc hal hr ha haN heq hs hl

end Go.Sh
