/-
  A shadow interpreter for the model's operations: shadow states and worlds. (No program in it.)
-/
import Derived.Test.YtnhofgbjmofcnaaGreatRShC
namespace Go.Sh
open Go

variable [Sg : Sig]

def AObj.wr : AObj → Bool
  | .cells _ _ ro => !ro
  | _ => true

inductive ER (ι : Inj) : List MapEntry → List MapEntry → Prop
  | nil : ER ι [] []
  | cons (e f : MapEntry) (es fs : List MapEntry) (hk : VR ι e.key f.key) (hv : VR ι e.val f.val) (hb : e.born = f.born) (hs : ER ι es fs) : ER ι (e :: es) (f :: fs)

theorem ER.mono {ι ι' : Inj} (hx : Ext ι ι') {es fs : List MapEntry} (h : ER ι es fs) : ER ι' es fs := by
  induction h with
  | nil => exact .nil
  | cons e f es fs hk hv hb _ ih => exact .cons e f es fs (hk.mono hx) (hv.mono hx) hb ih

theorem ER.length {ι : Inj} {es fs : List MapEntry} (h : ER ι es fs) : es.length = fs.length := by
  induction h with
  | nil => rfl
  | cons e f es fs hk hv hb _ ih => simp [ih]

inductive MR (ι : Inj) : Option Nat → Option Nat → Prop
  | none : MR ι none none
  | some (n : Nat) (ni : NI) (h : ι n = some ni) : MR ι (some n) (some ni.blk)

/-- The cells of a block from d on, n of them. -/
def piece (c : Array Value) (d n : Nat) : List Value := (c.toList.drop d).take n

def OR (ι : Inj) (w : World) (ni : NI) : AObj → Prop
  | .cells cs esz ro => ∃ c e fr, w.heap[ni.blk]? = some (.cells c e fr) ∧ cs.length = ni.sa ∧ ni.esz = esz ∧ ni.d + ni.sa ≤ c.size ∧
      LR ι cs (piece c ni.d ni.sa) ∧ (ro = false → ∀ off, off < c.size → ¬ (fr.1 ≤ off ∧ off < fr.2)) ∧
      (esz = none → ro = false → fr = (0, 0)) ∧ (∀ k, esz = some k → 0 < k ∧ c.size = ni.sc)
  | .map es clock => ∃ es', w.heap[ni.blk]? = some (.map es' clock) ∧ ER ι es es'.toList
  | .iter m since seen stepped => ∃ m', w.heap[ni.blk]? = some (.mapIter m' since ⟨seen⟩ stepped) ∧ MR ι m m' ∧ ni.d = 0
  | .chan cap buf closed => ∃ buf' sent rec, w.heap[ni.blk]? = some (.chan cap buf' closed sent rec false) ∧ LR ι buf buf'.toList

structure SR (ι : Inj) (s : St) (w : World) : Prop where
  obj : ∀ n o, s.heap.get n = some o → ∃ ni, ι n = some ni ∧ OR ι w ni o
  inj : ∀ n m o p ni mi, s.heap.get n = some o → s.heap.get m = some p → ι n = some ni → ι m = some mi → ni.blk = mi.blk → n = m
  fresh : ∀ n ni, ι n = some ni → n < s.next

/-- Which offsets of a block are not to be written. -/
def fzObj : Option Obj → Nat → Bool
  | some (.cells _ _ fr), off => fr.1 ≤ off && off < fr.2
  | _, _ => false

omit Sg in
theorem frozen_fz (w : World) (a : Addr) : w.frozen? a = fzObj w.heap[a.block]? a.off := by
  unfold World.frozen? fzObj
  cases w.heap[a.block]? with
  | none => rfl
  | some o => cases o <;> rfl

structure Calm (w w' : World) : Prop where
  os : w'.os = w.os
  output : w'.output = w.output
  tape : w'.tape = w.tape
  froz : ∀ a, w'.frozen? a = w.frozen? a

omit Sg in
theorem Calm.refl (w : World) : Calm w w := ⟨rfl, rfl, rfl, fun _ => rfl⟩
omit Sg in
theorem Calm.trans {w w' w'' : World} (h : Calm w w') (h' : Calm w' w'') : Calm w w'' := ⟨h'.os.trans h.os, h'.output.trans h.output, h'.tape.trans h.tape, fun a => (h'.froz a).trans (h.froz a)⟩

structure Post (ι : Inj) (s : St) (w : World) (ι' : Inj) (s' : St) (w' : World) : Prop where
  ext : Ext ι ι'
  rel : SR ι' s' w'
  size : w.heap.size ≤ w'.heap.size
  frame : ∀ b, b < w.heap.size → (∀ n o ni, s.heap.get n = some o → o.wr = true → ι n = some ni → ni.blk ≠ b) → w'.heap[b]? = w.heap[b]?
  wr : ∀ n o ni, s'.heap.get n = some o → o.wr = true → ι' n = some ni → w.heap.size ≤ ni.blk ∨ ∃ m p mi, s.heap.get m = some p ∧ p.wr = true ∧ ι m = some mi ∧ mi.blk = ni.blk
  calm : Calm w w'
  next : s.next ≤ s'.next
  live : ∀ n o, s'.heap.get n = some o → (∃ p, s.heap.get n = some p) ∨ s.next ≤ n
  newn : ∀ n ni, ι' n = some ni → ι n = some ni ∨ s.next ≤ n
  blk : ∀ n o ni, s'.heap.get n = some o → ι' n = some ni → w.heap.size ≤ ni.blk ∨ ∃ m p mi, s.heap.get m = some p ∧ ι m = some mi ∧ mi.blk = ni.blk

theorem OR.mono {ι ι' : Inj} (hx : Ext ι ι') {w w' : World} {ni : NI} (hw : w'.heap[ni.blk]? = w.heap[ni.blk]?) {o : AObj} (h : OR ι w ni o) : OR ι' w' ni o := by
  cases o with
  | cells cs esz ro =>
    obtain ⟨c, e, fr, h1, h2, h3, h4, h5, h6⟩ := h
    exact ⟨c, e, fr, hw ▸ h1, h2, h3, h4, h5.mono hx, h6⟩
  | map es clock =>
    obtain ⟨es', h1, h2⟩ := h
    exact ⟨es', hw ▸ h1, h2.mono hx⟩
  | iter m since seen stepped =>
    obtain ⟨m', h1, h2, h3⟩ := h
    refine ⟨m', hw ▸ h1, ?_, h3⟩
    cases h2 with
    | none => exact .none
    | some n ni h => exact .some n ni (hx n ni h)
  | chan cap buf closed =>
    obtain ⟨b, s, r, h1, h2⟩ := h
    exact ⟨b, s, r, hw ▸ h1, h2.mono hx⟩

theorem OR.blk {ι : Inj} {w : World} {ni : NI} {o : AObj} (h : OR ι w ni o) : ni.blk < w.heap.size := by
  have : ∃ x, w.heap[ni.blk]? = some x := by
    cases o with
    | cells cs esz ro => obtain ⟨c, e, fr, h1, _⟩ := h; exact ⟨_, h1⟩
    | map es clock => obtain ⟨es', h1, _⟩ := h; exact ⟨_, h1⟩
    | iter m since seen stepped => obtain ⟨m', h1, _⟩ := h; exact ⟨_, h1⟩
    | chan cap buf closed => obtain ⟨b, s, r, h1, _⟩ := h; exact ⟨_, h1⟩
  obtain ⟨x, hx⟩ := this
  exact (Array.getElem?_eq_some_iff.1 hx).1

theorem Post.refl {ι : Inj} {s : St} {w : World} (h : SR ι s w) : Post ι s w ι s w where
  ext := Ext.refl ι
  rel := h
  size := Nat.le_refl _
  frame := fun _ _ _ => rfl
  wr := fun n o ni hn ho hni => .inr ⟨n, o, ni, hn, ho, hni, rfl⟩
  calm := Calm.refl w
  next := Nat.le_refl _
  live := fun n o h => .inl ⟨o, h⟩
  newn := fun _ _ h => .inl h
  blk := fun n o ni hn hni => .inr ⟨n, o, ni, hn, hni, rfl⟩

/-- What hangs on the heap alone. -/
theorem SR.of_heap {ι : Inj} {s : St} {w w' : World} (h : SR ι s w) (hw : w'.heap = w.heap) : SR ι s w' where
  obj := fun n o hn => let ⟨ni, h1, h2⟩ := h.obj n o hn; ⟨ni, h1, h2.mono (Ext.refl ι) (by rw [hw])⟩
  inj := h.inj
  fresh := h.fresh

theorem Post.drawn {ι : Inj} {s : St} {w w' : World} (h : SR ι s w) (hw : w'.heap = w.heap) (hc : Calm w w') : Post ι s w ι s w' where
  ext := Ext.refl ι
  rel := h.of_heap hw
  size := by rw [hw]; exact Nat.le_refl _
  frame := fun _ _ _ => by rw [hw]
  wr := fun n o ni hn ho hni => .inr ⟨n, o, ni, hn, ho, hni, rfl⟩
  calm := hc
  next := Nat.le_refl _
  live := fun n o h => .inl ⟨o, h⟩
  newn := fun _ _ h => .inl h
  blk := fun n o ni hn hni => .inr ⟨n, o, ni, hn, hni, rfl⟩

theorem Post.trans {ι ι' ι'' : Inj} {s s' s'' : St} {w w' w'' : World} (h : Post ι s w ι' s' w') (h' : Post ι' s' w' ι'' s'' w'') : Post ι s w ι'' s'' w'' where
  ext := h.ext.trans h'.ext
  rel := h'.rel
  size := Nat.le_trans h.size h'.size
  frame := fun b hb hf => by
    rw [h'.frame b (Nat.lt_of_lt_of_le hb h.size), h.frame b hb hf]
    intro n o ni hn ho hni he
    rcases h.wr n o ni hn ho hni with hge | ⟨m, p, mi, hm, hp, hmi, heq⟩
    · omega
    · exact hf m p mi hm hp hmi (heq.trans he)
  wr := fun n o ni hn ho hni => by
    rcases h'.wr n o ni hn ho hni with hge | ⟨m, p, mi, hm, hp, hmi, heq⟩
    · exact .inl (Nat.le_trans h.size hge)
    · rcases h.wr m p mi hm hp hmi with hge | ⟨m', p', mi', hm', hp', hmi', heq'⟩
      · exact .inl (heq ▸ hge)
      · exact .inr ⟨m', p', mi', hm', hp', hmi', heq'.trans heq⟩
  calm := h.calm.trans h'.calm
  next := Nat.le_trans h.next h'.next
  live := fun n o hn => by
    rcases h'.live n o hn with ⟨p, hp⟩ | hge
    · exact h.live n p hp
    · exact .inr (Nat.le_trans h.next hge)
  newn := fun n ni hn => by
    rcases h'.newn n ni hn with h1 | hge
    · exact h.newn n ni h1
    · exact .inr (Nat.le_trans h.next hge)
  blk := fun n o ni hn hni => by
    rcases h'.blk n o ni hn hni with hge | ⟨m, p, mi, hm, hmi, heq⟩
    · exact .inl (Nat.le_trans h.size hge)
    · rcases h.blk m p mi hm hmi with hge | ⟨m', p', mi', hm', hmi', heq'⟩
      · exact .inl (heq ▸ hge)
      · exact .inr ⟨m', p', mi', hm', hmi', heq'.trans heq⟩

/-- The world with another object in a block. -/
def wput (w : World) (b : Nat) (o : Obj) : World := { w with heap := w.heap.setIfInBounds b o }

omit Sg in
theorem wput_get (w : World) (b : Nat) (o : Obj) (c : Nat) (hb : b < w.heap.size) : (wput w b o).heap[c]? = if c = b then some o else w.heap[c]? := by
  unfold wput
  by_cases h : c = b
  · subst h; simp [hb]
  · simp [h, Array.getElem?_setIfInBounds_ne (Ne.symm h)]

omit Sg in
theorem wput_size (w : World) (b : Nat) (o : Obj) : (wput w b o).heap.size = w.heap.size := by simp [wput]

omit Sg in
theorem wput_frozen {w : World} {b : Nat} {o o' : Obj} (hb : w.heap[b]? = some o) (h : ∀ off, fzObj (some o') off = fzObj (some o) off) (a : Addr) : (wput w b o').frozen? a = w.frozen? a := by
  rw [frozen_fz, frozen_fz, wput_get _ _ _ _ (Array.getElem?_eq_some_iff.1 hb).1]
  by_cases e : a.block = b
  · rw [if_pos e, e, hb]; exact h _
  · rw [if_neg e]

theorem Post.write {ι : Inj} {s : St} {w : World} (h : SR ι s w) {n : Nat} {o o1 : AObj} {ni : NI} {ob : Obj} (hn : s.heap.get n = some o) (ho : o.wr = true)
    (hni : ι n = some ni) (ho1 : o1.wr = true) (hor : OR ι (wput w ni.blk ob) ni o1) (hz : ∀ a, (wput w ni.blk ob).frozen? a = w.frozen? a) :
    Post ι s w ι { s with heap := s.heap.set n o1 } (wput w ni.blk ob) := by
  have hblk : ni.blk < w.heap.size := by
    obtain ⟨ni', h1, h2⟩ := h.obj n o hn
    rw [hni] at h1; cases h1; exact h2.blk
  refine ⟨Ext.refl ι, ⟨?_, ?_, h.fresh⟩, by rw [wput_size]; exact Nat.le_refl _, ?_, ?_, ⟨rfl, rfl, rfl, hz⟩, Nat.le_refl _, ?_, fun _ _ h => .inl h, ?_⟩
  · intro m p hm
    simp only [Tr.get_set] at hm
    by_cases e : m = n
    · subst e
      rw [if_pos rfl] at hm
      cases hm
      exact ⟨ni, hni, hor⟩
    · rw [if_neg e] at hm
      obtain ⟨mi, h1, h2⟩ := h.obj m p hm
      refine ⟨mi, h1, h2.mono (Ext.refl ι) ?_⟩
      rw [wput_get _ _ _ _ hblk, if_neg]
      intro e'
      exact e (h.inj m n p o mi ni hm hn h1 hni e')
  · intro a b p q ai bi ha hb hai hbi hab
    simp only [Tr.get_set] at ha hb
    have ha' : ∃ p', s.heap.get a = some p' := by
      by_cases e : a = n
      · subst e; exact ⟨_, hn⟩
      · rw [if_neg e] at ha; exact ⟨_, ha⟩
    have hb' : ∃ p', s.heap.get b = some p' := by
      by_cases e : b = n
      · subst e; exact ⟨_, hn⟩
      · rw [if_neg e] at hb; exact ⟨_, hb⟩
    obtain ⟨p', ha'⟩ := ha'
    obtain ⟨q', hb'⟩ := hb'
    exact h.inj a b p' q' ai bi ha' hb' hai hbi hab
  · intro b hb hf
    rw [wput_get _ _ _ _ hblk, if_neg]
    intro e
    exact hf n o ni hn ho hni e.symm
  · intro m p mi hm hp hmi
    simp only [Tr.get_set] at hm
    by_cases e : m = n
    · subst e
      rw [hni] at hmi; cases hmi
      exact .inr ⟨m, o, ni, hn, ho, hni, rfl⟩
    · rw [if_neg e] at hm
      exact .inr ⟨m, p, mi, hm, hp, hmi, rfl⟩
  · intro m p hm
    simp only [Tr.get_set] at hm
    by_cases e : m = n
    · subst e; exact .inl ⟨o, hn⟩
    · rw [if_neg e] at hm; exact .inl ⟨p, hm⟩
  · intro m p mi hm hmi
    simp only [Tr.get_set] at hm
    by_cases e : m = n
    · subst e
      exact .inr ⟨m, o, mi, hn, hmi, rfl⟩
    · rw [if_neg e] at hm
      exact .inr ⟨m, p, mi, hm, hmi, rfl⟩

def upd (ι : Inj) (n : Nat) (ni : NI) : Inj := fun m => if m = n then some ni else ι m

omit Sg in
theorem upd_same (ι : Inj) (n : Nat) (ni : NI) : upd ι n ni n = some ni := by simp [upd]
omit Sg in
theorem upd_ne (ι : Inj) {n m : Nat} (ni : NI) (h : m ≠ n) : upd ι n ni m = ι m := by simp [upd, h]

omit Sg in
theorem Ext.upd {ι : Inj} {n : Nat} (ni : NI) (h : ι n = none) : Ext ι (upd ι n ni) := by
  intro m mi hm
  rw [upd_ne]
  · exact hm
  · intro e; subst e; rw [h] at hm; cases hm

/-- The world with a block more. -/
def wpush (w : World) (o : Obj) : World := { w with heap := w.heap.push o }

omit Sg in
theorem wpush_get (w : World) (o : Obj) (c : Nat) : (wpush w o).heap[c]? = if c = w.heap.size then some o else w.heap[c]? := by
  unfold wpush
  rw [Array.getElem?_push]

omit Sg in
theorem wpush_size (w : World) (o : Obj) : (wpush w o).heap.size = w.heap.size + 1 := by simp [wpush]

omit Sg in
theorem wpush_frozen {w : World} {o : Obj} (h : ∀ off, fzObj (some o) off = false) (a : Addr) : (wpush w o).frozen? a = w.frozen? a := by
  rw [frozen_fz, frozen_fz, wpush_get]
  by_cases e : a.block = w.heap.size
  · rw [if_pos e, h, e]; simp [fzObj]
  · rw [if_neg e]

/-- A block more, under a name that nobody bears. -/
theorem SR.push {ι : Inj} {s : St} {w : World} (h : SR ι s w) {n nx : Nat} {o : AObj} {ni : NI} {ob : Obj} (hι : ι n = none)
    (hblk : ni.blk = w.heap.size) (hnx : s.next ≤ nx) (hn' : n < nx) (hor : OR (upd ι n ni) (wpush w ob) ni o) :
    SR (upd ι n ni) { heap := s.heap.set n o, next := nx } (wpush w ob) := by
  have hnone : s.heap.get n = none := by
    cases hg : s.heap.get n with
    | none => rfl
    | some p => obtain ⟨mi, h1, _⟩ := h.obj n p hg; rw [hι] at h1; cases h1
  have hold : ∀ m p mi, s.heap.get m = some p → ι m = some mi → mi.blk < w.heap.size := by
    intro m p mi hm hmi
    obtain ⟨mi', h1, h2⟩ := h.obj m p hm
    rw [hmi] at h1; cases h1; exact h2.blk
  refine ⟨?_, ?_, ?_⟩
  · intro m p hm
    simp only [Tr.get_set] at hm
    by_cases e : m = n
    · subst e
      rw [if_pos rfl] at hm; cases hm
      exact ⟨ni, upd_same .., hor⟩
    · rw [if_neg e] at hm
      obtain ⟨mi, h1, h2⟩ := h.obj m p hm
      refine ⟨mi, by rw [upd_ne _ _ e]; exact h1, h2.mono (Ext.upd ni hι) ?_⟩
      rw [wpush_get, if_neg]
      have := h2.blk
      omega
  · intro a b p q ai bi ha hb hai hbi hab
    simp only [Tr.get_set] at ha hb
    by_cases ea : a = n
    · by_cases eb : b = n
      · rw [ea, eb]
      · subst ea
        rw [upd_same] at hai; cases hai
        rw [if_neg eb] at hb
        rw [upd_ne _ _ eb] at hbi
        have := hold b q bi hb hbi
        omega
    · by_cases eb : b = n
      · subst eb
        rw [upd_same] at hbi; cases hbi
        rw [if_neg ea] at ha
        rw [upd_ne _ _ ea] at hai
        have := hold a p ai ha hai
        omega
      · rw [if_neg ea] at ha
        rw [if_neg eb] at hb
        rw [upd_ne _ _ ea] at hai
        rw [upd_ne _ _ eb] at hbi
        exact h.inj a b p q ai bi ha hb hai hbi hab
  · intro m mi hm
    by_cases e : m = n
    · subst e; exact hn'
    · rw [upd_ne _ _ e] at hm
      exact Nat.lt_of_lt_of_le (h.fresh m mi hm) hnx

theorem Post.push {ι : Inj} {s : St} {w : World} (h : SR ι s w) {o : AObj} {ni : NI} {ob : Obj}
    (hblk : ni.blk = w.heap.size) (hor : OR (upd ι s.next ni) (wpush w ob) ni o) (hz : ∀ off, fzObj (some ob) off = false) :
    Post ι s w (upd ι s.next ni) { heap := s.heap.set s.next o, next := s.next + 1 } (wpush w ob) := by
  have hι : ι s.next = none := by
    cases hg : ι s.next with
    | none => rfl
    | some mi => have := h.fresh _ _ hg; omega
  refine ⟨Ext.upd ni hι, h.push hι hblk (by omega) (by omega) hor, by rw [wpush_size]; omega, ?_, ?_, ⟨rfl, rfl, rfl, wpush_frozen hz⟩, by show s.next ≤ s.next + 1; omega, ?_, ?_, ?_⟩
  · intro b hb _
    rw [wpush_get, if_neg (by omega)]
  · intro m p mi hm hp hmi
    simp only [Tr.get_set] at hm
    by_cases e : m = s.next
    · subst e
      rw [upd_same] at hmi; cases hmi
      exact .inl (by omega)
    · rw [if_neg e] at hm
      rw [upd_ne _ _ e] at hmi
      exact .inr ⟨m, p, mi, hm, hp, hmi, rfl⟩
  · intro m p hm
    simp only [Tr.get_set] at hm
    by_cases e : m = s.next
    · exact .inr (by omega)
    · rw [if_neg e] at hm; exact .inl ⟨p, hm⟩
  · intro m mi hm
    by_cases e : m = s.next
    · exact .inr (by omega)
    · rw [upd_ne _ _ e] at hm; exact .inl hm
  · intro m p mi hm hmi
    simp only [Tr.get_set] at hm
    by_cases e : m = s.next
    · subst e
      rw [upd_same] at hmi; cases hmi
      exact .inl (by omega)
    · rw [if_neg e] at hm
      rw [upd_ne _ _ e] at hmi
      exact .inr ⟨m, p, mi, hm, hmi, rfl⟩

/-- With fewer names. -/
theorem SR.sub {ι : Inj} {s s' : St} {w : World} (h : SR ι s w) (hsub : ∀ n o, s'.heap.get n = some o → s.heap.get n = some o) (hn : s.next ≤ s'.next) : SR ι s' w where
  obj := fun n o hn => h.obj n o (hsub n o hn)
  inj := fun n m o p ni mi hn hm => h.inj n m o p ni mi (hsub n o hn) (hsub m p hm)
  fresh := fun n ni hni => Nat.lt_of_lt_of_le (h.fresh n ni hni) hn

/-! ### the environment -/
structure TyOk (P : Program) (t : Nat) (ti : TI) : Prop where
  info : ∃ i, P.info? t = some i ∧ i.size = ti.size ∧ i.bytes = ti.bytes ∧ ∃ z, i.zero = some z ∧ z.cells.toList = ti.zero ∧ (isAgg ti.und = true → z = .agg ⟨ti.zero⟩) ∧ (isAgg ti.und = false → ti.zero = [z])
  und : P.underlying t = some ti.und
  plain : ∀ v ∈ ti.zero, plainV v = true
  eqs : isAgg ti.und = true → P.eqGuardType P.depth t = false ∧ P.stoodInHeld t = false

def Code.drawsOk (ok : Nat → Array Oper → Bool) : Code → Bool
  | .region id ops draw => cond draw (ok id ops) true
  | .seq a b => drawsOk ok a && drawsOk ok b
  | .cond _ a b => drawsOk ok a && drawsOk ok b
  | .block _ c => drawsOk ok c
  | .loop c => drawsOk ok c
  | _ => true

def argsOk (vs : List Value) (ws : Array Value) (ι : Inj) : Prop := LR ι vs ws.toList

/-- What a prim says is so of the function. -/
def PrimOk (P : Program) (f : FuncId) (p : List Value → St → Option (Value × St)) : Prop :=
  ∀ (args : List Value) (s : St) (v : Value) (s' : St), p args s = some (v, s') → ∀ (ι : Inj) (w : World) (ws : List Value), SR ι s w → LR ι args ws →
    Calls P f ⟨ws⟩ w fun e w' => ∃ ι' v', e = .returned v' ∧ VR ι' v v' ∧ Post ι s w ι' s' w'

end Go.Sh
