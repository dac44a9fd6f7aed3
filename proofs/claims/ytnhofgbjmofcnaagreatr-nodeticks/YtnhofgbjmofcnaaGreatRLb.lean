/-
  A shadow interpreter for the model's operations: how a shadow state and a world hang together. (No program in it.) A shadow interpreter for the model's operations: shadow states and worlds. (No program in it.) A shadow interpreter for the model's operations: the operations that touch no memory are met. (No program in it.) A shadow interpreter for the model's operations: the operations that touch no memory are met, all of them. (No program in it.)
-/
import Derived.Test.YtnhofgbjmofcnaaGreatRLa

namespace Go.Sh
open Go

theorem isCell_word {v : Value} (h : isWord v = true) : isCell v = true := by
  cases v <;> first | rfl | cases h

/-! ### tries -/
theorem nat_beq_eq {a b : Nat} : Nat.beq a b = decide (a = b) := by
  by_cases h : a = b
  · subst h; simp
  · have : Nat.beq a b = false := by
      cases hb : Nat.beq a b
      · rfl
      · exact absurd (Nat.eq_of_beq_eq_true hb) h
    rw [this]; simp [h]

theorem Tr.get_leaf {α : Type} (n : Nat) : (Tr.leaf : Tr α).get n = none := by unfold Tr.get; rfl

theorem Tr.get_node {α : Type} (l r : Tr α) (v : Option α) (n : Nat) :
    (Tr.node l v r).get n = if n = 0 then v else if n % 2 = 1 then l.get (n / 2) else r.get (n / 2 - 1) := by
  conv => lhs; unfold Tr.get
  simp only [nat_beq_eq]
  by_cases h : n = 0
  · simp [h]
  · by_cases h2 : n % 2 = 1 <;> simp [h, h2]

theorem Tr.get_one {α : Type} (f : Nat) : ∀ (n m : Nat) (a : α), n ≤ f → (Tr.one f n a).get m = if m = n then some a else none := by
  induction f with
  | zero =>
    intro n m a h
    obtain rfl : n = 0 := by omega
    unfold Tr.one
    rw [Tr.get_node]
    by_cases hm : m = 0
    · simp [hm]
    · by_cases h2 : m % 2 = 1 <;> simp [hm, h2, Tr.get_leaf]
  | succ f ih =>
    intro n m a h
    unfold Tr.one
    simp only [nat_beq_eq]
    by_cases hn : n = 0
    · simp only [hn, decide_true, cond_true]
      rw [Tr.get_node]
      by_cases hm : m = 0
      · simp [hm]
      · by_cases h2 : m % 2 = 1 <;> simp [hm, h2, Tr.get_leaf]
    · by_cases h1 : n % 2 = 1
      · simp only [hn, h1, decide_false, decide_true, cond_true, cond_false]
        rw [Tr.get_node]
        by_cases hm : m = 0
        · simp only [hm, if_true]; rw [if_neg (by omega)]
        · by_cases h2 : m % 2 = 1
          · simp only [hm, h2, if_false, if_true]
            rw [ih _ _ _ (by omega)]
            by_cases e : m = n
            · simp [e]
            · rw [if_neg (by omega), if_neg e]
          · simp only [hm, h2, if_false, Tr.get_leaf]; rw [if_neg (by omega)]
      · simp only [hn, h1, decide_false, cond_false]
        rw [Tr.get_node]
        by_cases hm : m = 0
        · simp only [hm, if_true]; rw [if_neg (by omega)]
        · by_cases h2 : m % 2 = 1
          · simp only [hm, h2, if_false, if_true, Tr.get_leaf]; rw [if_neg (by omega)]
          · simp only [hm, h2, if_false]
            rw [ih _ _ _ (by omega)]
            by_cases e : m = n
            · simp [e]
            · rw [if_neg (by omega), if_neg e]

theorem Tr.get_set {α : Type} (t : Tr α) : ∀ (n m : Nat) (a : α), (t.set n a).get m = if m = n then some a else t.get m := by
  induction t with
  | leaf => intro n m a; unfold Tr.set; rw [Tr.get_one _ _ _ _ (Nat.le_refl _), Tr.get_leaf]
  | node l v r ihl ihr =>
    intro n m a
    conv => lhs; unfold Tr.set
    simp only [nat_beq_eq]
    by_cases hn : n = 0
    · simp only [hn, decide_true, cond_true]
      rw [Tr.get_node, Tr.get_node]
      by_cases hm : m = 0 <;> simp [hm]
    · by_cases h1 : n % 2 = 1
      · simp only [hn, h1, decide_false, decide_true, cond_true, cond_false]
        rw [Tr.get_node, Tr.get_node]
        by_cases hm : m = 0
        · simp only [hm, if_true]; rw [if_neg (by omega)]
        · by_cases h2 : m % 2 = 1
          · simp only [hm, h2, if_false, if_true]
            rw [ihl]
            by_cases e : m = n
            · simp [e]
            · rw [if_neg (by omega), if_neg e]
          · simp only [hm, h2, if_false]; rw [if_neg (by omega)]
      · simp only [hn, h1, decide_false, cond_false]
        rw [Tr.get_node, Tr.get_node]
        by_cases hm : m = 0
        · simp only [hm, if_true]; rw [if_neg (by omega)]
        · by_cases h2 : m % 2 = 1
          · simp only [hm, h2, if_false, if_true]; rw [if_neg (by omega)]
          · simp only [hm, h2, if_false]
            rw [ihr]
            by_cases e : m = n
            · simp [e]
            · rw [if_neg (by omega), if_neg e]

theorem Tr.get_del {α : Type} (t : Tr α) : ∀ (n m : Nat), (t.del n).get m = if m = n then none else t.get m := by
  induction t with
  | leaf => intro n m; unfold Tr.del; rw [Tr.get_leaf]; simp
  | node l v r ihl ihr =>
    intro n m
    conv => lhs; unfold Tr.del
    simp only [nat_beq_eq]
    by_cases hn : n = 0
    · simp only [hn, decide_true, cond_true]
      rw [Tr.get_node, Tr.get_node]
      by_cases hm : m = 0 <;> simp [hm]
    · by_cases h1 : n % 2 = 1
      · simp only [hn, h1, decide_false, decide_true, cond_true, cond_false]
        rw [Tr.get_node, Tr.get_node]
        by_cases hm : m = 0
        · simp only [hm, if_true]; rw [if_neg (by omega)]
        · by_cases h2 : m % 2 = 1
          · simp only [hm, h2, if_false, if_true]
            rw [ihl]
            by_cases e : m = n
            · simp [e]
            · rw [if_neg (by omega), if_neg e]
          · simp only [hm, h2, if_false]; rw [if_neg (by omega)]
      · simp only [hn, h1, decide_false, cond_false]
        rw [Tr.get_node, Tr.get_node]
        by_cases hm : m = 0
        · simp only [hm, if_true]; rw [if_neg (by omega)]
        · by_cases h2 : m % 2 = 1
          · simp only [hm, h2, if_false, if_true]; rw [if_neg (by omega)]
          · simp only [hm, h2, if_false]
            rw [ihr]
            by_cases e : m = n
            · simp [e]
            · rw [if_neg (by omega), if_neg e]

/-! ### names and blocks -/
structure NI where
  blk : Nat
  d : Nat
  sa : Nat
  sc : Nat
  esz : Option Nat

abbrev Inj := Nat → Option NI

/-- A slice's capacity, in the shadow and in the world. -/
def CapOk (ni : NI) (off cap cap' : Nat) : Prop :=
  cap' = cap ∨ ∃ k, 0 < k ∧ ni.esz = some k ∧ off + cap * k = ni.sa ∧ ni.d + off + cap' * k = ni.sc

/-- What the values stand for that stand for others. -/
class Sig where
  sym : Nat → Value
  word : ∀ n, isWord (sym n) = true

variable [Sg : Sig]

mutual
inductive VR (ι : Inj) : Value → Value → Prop
  | bool (b : Bool) : VR ι (.bool b) (.bool b)
  | int (k : IntKind) (n : Int) : VR ι (.int k n) (.int k n)
  | any (k : FloatKind) (n : Nat) (v : Value) (h : isWord v = true) : VR ι (.float k n) v
  | sym (k : FloatKind) (n m : Nat) : VR ι (.complex k n m) (Sg.sym n)
  | string (s : ByteArray) : VR ι (.string s) (.string s)
  | pnil : VR ι (.pointer none) (.pointer none)
  | ptr (n off : Nat) (ni : NI) (h : ι n = some ni) : VR ι (.pointer (some ⟨n, off, none⟩)) (.pointer (some ⟨ni.blk, ni.d + off, none⟩))
  | snil (l c : Nat) : VR ι (.slice none l c) (.slice none l c)
  | slice (n off len cap cap' : Nat) (ni : NI) (h : ι n = some ni) (hc : CapOk ni off cap cap') (hle : cap ≤ cap') :
      VR ι (.slice (some ⟨n, off, none⟩) len cap) (.slice (some ⟨ni.blk, ni.d + off, none⟩) len cap')
  | szero (a a' : Addr) : VR ι (.slice (some a) 0 0) (.slice (some a') 0 0)
  | mnil : VR ι (.map none) (.map none)
  | map (n : Nat) (ni : NI) (h : ι n = some ni) : VR ι (.map (some n)) (.map (some ni.blk))
  | cnil : VR ι (.chan none) (.chan none)
  | chan (n : Nat) (ni : NI) (h : ι n = some ni) : VR ι (.chan (some n)) (.chan (some ni.blk))
  | func (fn : Fn) (xs ys us vs : List Value) (h1 : LR ι xs us) (h2 : LR ι ys vs) : VR ι (.func fn ⟨xs⟩ ⟨ys⟩) (.func fn ⟨us⟩ ⟨vs⟩)
  | nilFunc : VR ι .nilFunc .nilFunc
  | iface (t : TypeId) (v w : Value) (h : VR ι v w) : VR ι (.iface t v) (.iface t w)
  | nilIface : VR ι .nilIface .nilIface
  | agg (xs ys : List Value) (h : LR ι xs ys) : VR ι (.agg ⟨xs⟩) (.agg ⟨ys⟩)
  | tuple (xs ys : List Value) (h : LR ι xs ys) : VR ι (.tuple ⟨xs⟩) (.tuple ⟨ys⟩)
inductive LR (ι : Inj) : List Value → List Value → Prop
  | nil : LR ι [] []
  | cons (x y : Value) (xs ys : List Value) (h : VR ι x y) (hs : LR ι xs ys) : LR ι (x :: xs) (y :: ys)
end

def Ext (ι ι' : Inj) : Prop := ∀ n ni, ι n = some ni → ι' n = some ni

omit Sg in
theorem Ext.refl (ι : Inj) : Ext ι ι := fun _ _ h => h
omit Sg in
theorem Ext.trans {ι ι' ι'' : Inj} (h : Ext ι ι') (h' : Ext ι' ι'') : Ext ι ι'' := fun n ni e => h' n ni (h n ni e)

mutual
theorem VR.mono {ι ι' : Inj} (hx : Ext ι ι') : ∀ {v w : Value}, VR ι v w → VR ι' v w
  | _, _, .bool b => .bool b
  | _, _, .int k n => .int k n
  | _, _, .any k n v h => .any k n v h
  | _, _, .sym k n m => .sym k n m
  | _, _, .string s => .string s
  | _, _, .pnil => .pnil
  | _, _, .ptr n off ni h => .ptr n off ni (hx n ni h)
  | _, _, .snil l c => .snil l c
  | _, _, .slice n off len cap cap' ni h hc hle => .slice n off len cap cap' ni (hx n ni h) hc hle
  | _, _, .szero a a' => .szero a a'
  | _, _, .mnil => .mnil
  | _, _, .map n ni h => .map n ni (hx n ni h)
  | _, _, .cnil => .cnil
  | _, _, .chan n ni h => .chan n ni (hx n ni h)
  | _, _, .func fn xs ys us vs h1 h2 => .func fn xs ys us vs (h1.mono hx) (h2.mono hx)
  | _, _, .nilFunc => .nilFunc
  | _, _, .iface t v w h => .iface t v w (h.mono hx)
  | _, _, .nilIface => .nilIface
  | _, _, .agg xs ys h => .agg xs ys (h.mono hx)
  | _, _, .tuple xs ys h => .tuple xs ys (h.mono hx)
theorem LR.mono {ι ι' : Inj} (hx : Ext ι ι') : ∀ {v w : List Value}, LR ι v w → LR ι' v w
  | _, _, .nil => .nil
  | _, _, .cons x y xs ys h hs => .cons x y xs ys (h.mono hx) (hs.mono hx)
end

theorem LR.length {ι : Inj} {xs ys : List Value} (h : LR ι xs ys) : xs.length = ys.length := by
  induction xs generalizing ys with
  | nil => cases h; rfl
  | cons x xs ih => cases h with | cons _ _ _ _ _ hs => simp [ih hs]

theorem LR.append {ι : Inj} {xs ys us vs : List Value} (h : LR ι xs us) (h' : LR ι ys vs) : LR ι (xs ++ ys) (us ++ vs) := by
  induction xs generalizing us with
  | nil => cases h; exact h'
  | cons x xs ih => cases h with | cons _ _ _ _ hx hs => exact .cons _ _ _ _ hx (ih hs)

theorem LR.get {ι : Inj} {xs ys : List Value} (h : LR ι xs ys) {i : Nat} {x : Value} (hx : xs[i]? = some x) : ∃ y, ys[i]? = some y ∧ VR ι x y := by
  induction xs generalizing ys i with
  | nil => simp at hx
  | cons a xs ih => cases h with
    | cons _ b _ bs hab hs =>
      cases i with
      | zero => simp at hx; subst hx; exact ⟨b, by simp, hab⟩
      | succ i => simpa using ih hs (by simpa using hx)

theorem LR.of_get {ι : Inj} {xs ys : List Value} (hl : xs.length = ys.length) (h : ∀ (i : Nat) x y, xs[i]? = some x → ys[i]? = some y → VR ι x y) : LR ι xs ys := by
  induction xs generalizing ys with
  | nil => cases ys with | nil => exact .nil | cons => simp at hl
  | cons a xs ih => cases ys with
    | nil => simp at hl
    | cons b ys =>
      refine .cons _ _ _ _ (h 0 a b (by simp) (by simp)) (ih (by simpa using hl) fun i x y hx hy => h (i + 1) x y (by simpa using hx) (by simpa using hy))

theorem LR.drop {ι : Inj} {xs ys : List Value} (h : LR ι xs ys) : ∀ (n : Nat), LR ι (xs.drop n) (ys.drop n) := by
  induction xs generalizing ys with
  | nil => cases h; intro n; simp; exact .nil
  | cons a xs ih => cases h with
    | cons _ b _ bs hab hs =>
      intro n
      cases n with
      | zero => exact .cons _ _ _ _ hab hs
      | succ n => simpa using ih hs n

theorem LR.take {ι : Inj} {xs ys : List Value} (h : LR ι xs ys) : ∀ (n : Nat), LR ι (xs.take n) (ys.take n) := by
  induction xs generalizing ys with
  | nil => cases h; intro n; simp; exact .nil
  | cons a xs ih => cases h with
    | cons _ b _ bs hab hs =>
      intro n
      cases n with
      | zero => exact .nil
      | succ n => simpa using LR.cons _ _ _ _ hab (ih hs n)

/-! ### plain values stand for themselves -/
omit Sg in
theorem allV_mem {p : Value → Bool} {l : List Value} : allV p l = true ↔ ∀ v ∈ l, p v = true := by
  induction l with
  | nil => simp [allV]
  | cons a l ih => simp [allV, ih]

theorem LR.self {ι : Inj} {l : List Value} (h : ∀ v ∈ l, VR ι v v) : LR ι l l := by
  induction l with
  | nil => exact .nil
  | cons a l ih => exact .cons _ _ _ _ (h a (by simp)) (ih fun v hv => h v (by simp [hv]))

theorem plainN_VR {ι : Inj} (n : Nat) : ∀ {v : Value}, plainN n v = true → VR ι v v := by
  induction n with
  | zero =>
    intro v h
    cases v with
    | pointer a => cases a <;> simp [plainN] at h; exact .pnil
    | slice a l c => cases a with
      | none => exact .snil _ _
      | some a => simp [plainN] at h
    | map r => cases r <;> simp [plainN] at h; exact .mnil
    | chan r => cases r <;> simp [plainN] at h; exact .cnil
    | bool => exact .bool _
    | int => exact .int _ _
    | string => exact .string _
    | nilFunc => exact .nilFunc
    | nilIface => exact .nilIface
    | _ => simp [plainN] at h
  | succ n ih =>
    intro v h
    cases v with
    | pointer a => cases a <;> simp [plainN] at h; exact .pnil
    | slice a l c => cases a with
      | none => exact .snil _ _
      | some a => simp [plainN] at h
    | map r => cases r <;> simp [plainN] at h; exact .mnil
    | chan r => cases r <;> simp [plainN] at h; exact .cnil
    | bool => exact .bool _
    | int => exact .int _ _
    | string => exact .string _
    | nilFunc => exact .nilFunc
    | nilIface => exact .nilIface
    | float => simp [plainN] at h
    | complex => simp [plainN] at h
    | func fn xs ys =>
      simp only [plainN, Bool.and_eq_true, allV_mem] at h
      exact .func fn xs.toList ys.toList xs.toList ys.toList (.self fun v hv => ih (h.1 v hv)) (.self fun v hv => ih (h.2 v hv))
    | iface t v => simp only [plainN] at h; exact .iface _ _ _ (ih h)
    | agg xs => simp only [plainN, allV_mem] at h; exact .agg xs.toList xs.toList (.self fun v hv => ih (h v hv))
    | tuple xs => simp only [plainN, allV_mem] at h; exact .tuple xs.toList xs.toList (.self fun v hv => ih (h v hv))

theorem plainV_VR {ι : Inj} {v : Value} (h : plainV v = true) : VR ι v v := plainN_VR 6 h

theorem undef_VR (ι : Inj) : VR ι undef undef := .tuple [] [] .nil

/-! ### sameV -/
omit Sg in
theorem sameA_eq {a b : Option Addr} (h : sameA a b = true) : a = b := by
  cases a with
  | none => cases b <;> simp [sameA] at h; rfl
  | some a => cases b with
    | none => simp [sameA] at h
    | some b =>
      obtain ⟨ab, ao, as⟩ := a
      obtain ⟨bb, bo, bs⟩ := b
      simp [sameA, nat_beq_eq] at h
      obtain ⟨⟨⟨rfl, rfl⟩, h3⟩, h4⟩ := h
      simp [h3, h4]

omit Sg in
theorem sameO_eq {a b : Option Nat} (h : sameO a b = true) : a = b := by
  cases a <;> cases b <;> simp [sameO, nat_beq_eq] at h ⊢
  exact h

omit Sg in
theorem sameL_eq {p : Value → Value → Bool} (hp : ∀ x y, p x y = true → x = y) : ∀ {xs ys : List Value}, sameL p xs ys = true → xs = ys := by
  intro xs
  induction xs with
  | nil => intro ys h; cases ys <;> simp [sameL] at h; rfl
  | cons x xs ih => intro ys h; cases ys with
    | nil => simp [sameL] at h
    | cons y ys =>
      simp [sameL] at h
      rw [hp _ _ h.1, ih h.2]

omit Sg in
theorem sameBytes_eq {a b : ByteArray} (h : sameBytes a b = true) : a = b := by
  obtain ⟨⟨a⟩⟩ := a
  obtain ⟨⟨b⟩⟩ := b
  simp [sameBytes] at h
  rw [h]

omit Sg in
theorem array_eq_of_toList {xs ys : Array Value} (h : xs.toList = ys.toList) : xs = ys := by
  obtain ⟨xs⟩ := xs
  obtain ⟨ys⟩ := ys
  simp at h; rw [h]

omit Sg in
theorem sameN_eq (n : Nat) : ∀ {x y : Value}, sameN n x y = true → x = y := by
  induction n with
  | zero =>
    intro x y h
    cases x <;> cases y <;> simp [sameN, nat_beq_eq] at h
    all_goals first
      | rfl
      | (rw [h])
      | (rw [h.1, h.2])
      | (rw [sameBytes_eq h])
      | (rw [sameA_eq h])
      | (rw [sameO_eq h])
      | (rw [sameA_eq h.1.1, h.1.2, h.2])
      | (rw [h.1, h.2.1, h.2.2])
  | succ n ih =>
    intro x y h
    have ih' : ∀ x y, sameN n x y = true → x = y := fun x y h => ih h
    cases x <;> cases y <;> simp [sameN, nat_beq_eq] at h
    all_goals first
      | rfl
      | (rw [h])
      | (rw [h.1, h.2])
      | (rw [sameBytes_eq h])
      | (rw [sameA_eq h])
      | (rw [sameO_eq h])
      | (rw [sameA_eq h.1.1, h.1.2, h.2])
      | (rw [h.1, h.2.1, h.2.2])
      | (rw [h.1.1, array_eq_of_toList (sameL_eq ih' h.1.2), array_eq_of_toList (sameL_eq ih' h.2)])
      | (rw [array_eq_of_toList (sameL_eq ih' h)])
      | (rw [h.1, ih h.2])

omit Sg in
theorem sameV_eq {x y : Value} (h : sameV x y = true) : x = y := sameN_eq 6 h

end Go.Sh

namespace Go.Sh
open Go

variable [Sg : Sig]

def AObj.wr : AObj → Bool
  | .cells _ _ ro => !ro
  | _ => true

inductive ER (ι : Inj) : List MapEntry → List MapEntry → Prop
  | nil : ER ι [] []
  | cons (e f : MapEntry) (es fs : List MapEntry) (hk : VR ι e.key f.key) (hv : VR ι e.val f.val) (hb : e.born = f.born) (hs : ER ι es fs) : ER ι (e :: es) (f :: fs)

theorem ER.mono {ι ι' : Inj} (hx : Ext ι ι') {es fs : List MapEntry} (h : ER ι es fs) : ER ι' es fs := by
  induction h with
  | nil => exact .nil
  | cons e f es fs hk hv hb _ ih => exact .cons e f es fs (hk.mono hx) (hv.mono hx) hb ih

theorem ER.length {ι : Inj} {es fs : List MapEntry} (h : ER ι es fs) : es.length = fs.length := by
  induction h with
  | nil => rfl
  | cons e f es fs hk hv hb _ ih => simp [ih]

inductive MR (ι : Inj) : Option Nat → Option Nat → Prop
  | none : MR ι none none
  | some (n : Nat) (ni : NI) (h : ι n = some ni) : MR ι (some n) (some ni.blk)

/-- The cells of a block from d on, n of them. -/
def piece (c : Array Value) (d n : Nat) : List Value := (c.toList.drop d).take n

/-- A map's stamps: below its clock, no two the same. -/
structure StampedL (es : List MapEntry) (clock : Nat) : Prop where
  lt : ∀ e ∈ es, e.born < clock
  nodup : (es.map (·.born)).Nodup

def OR (ι : Inj) (w : World) (ni : NI) : AObj → Prop
  | .cells cs esz ro => ∃ c e fr, w.heap[ni.blk]? = some (.cells c e fr) ∧ cs.length = ni.sa ∧ ni.esz = esz ∧ ni.d + ni.sa ≤ c.size ∧
      LR ι cs (piece c ni.d ni.sa) ∧ (ro = false → ∀ off, off < c.size → ¬ (fr.1 ≤ off ∧ off < fr.2)) ∧
      (ro = false → fr = (0, 0)) ∧ c.size = ni.sc ∧ (∀ k, esz = some k → 0 < k ∧ ∀ v ∈ c.toList, isCell v = true)
  | .map es clock => ∃ es', w.heap[ni.blk]? = some (.map es' clock) ∧ ER ι es es'.toList ∧ StampedL es clock
  | .iter m since seen stepped => ∃ m', w.heap[ni.blk]? = some (.mapIter m' since ⟨seen⟩ stepped) ∧ MR ι m m' ∧ ni.d = 0
  | .chan cap buf closed => ∃ buf' sent rec, w.heap[ni.blk]? = some (.chan cap buf' closed sent rec false) ∧ LR ι buf buf'.toList

structure SR (ι : Inj) (s : St) (w : World) : Prop where
  obj : ∀ n o, s.heap.get n = some o → ∃ ni, ι n = some ni ∧ OR ι w ni o
  inj : ∀ n m o p ni mi, s.heap.get n = some o → s.heap.get m = some p → (o.wr = true ∨ p.wr = true) → ι n = some ni → ι m = some mi → ni.blk = mi.blk → n = m
  fresh : ∀ n ni, ι n = some ni → n < s.next

/-- Which offsets of a block are not to be written. -/
def fzObj : Option Obj → Nat → Bool
  | some (.cells _ _ fr), off => fr.1 ≤ off && off < fr.2
  | _, _ => false

omit Sg in
theorem frozen_fz (w : World) (a : Addr) : w.frozen? a = fzObj w.heap[a.block]? a.off := by
  unfold World.frozen? fzObj
  cases w.heap[a.block]? with
  | none => rfl
  | some o => cases o <;> rfl

structure Calm (w w' : World) : Prop where
  os : w'.os = w.os
  output : w'.output = w.output
  froz : ∀ a, w'.frozen? a = w.frozen? a

omit Sg in
theorem Calm.refl (w : World) : Calm w w := ⟨rfl, rfl, fun _ => rfl⟩
omit Sg in
theorem Calm.trans {w w' w'' : World} (h : Calm w w') (h' : Calm w' w'') : Calm w w'' := ⟨h'.os.trans h.os, h'.output.trans h.output, fun a => (h'.froz a).trans (h.froz a)⟩

structure Post (ι : Inj) (s : St) (w : World) (ι' : Inj) (s' : St) (w' : World) : Prop where
  ext : Ext ι ι'
  rel : SR ι' s' w'
  size : w.heap.size ≤ w'.heap.size
  frame : ∀ b, b < w.heap.size → (∀ n o ni, s.heap.get n = some o → o.wr = true → ι n = some ni → ni.blk ≠ b) → w'.heap[b]? = w.heap[b]?
  wr : ∀ n o ni, s'.heap.get n = some o → o.wr = true → ι' n = some ni → w.heap.size ≤ ni.blk ∨ ∃ m p mi, s.heap.get m = some p ∧ p.wr = true ∧ ι m = some mi ∧ mi.blk = ni.blk
  calm : Calm w w'
  next : s.next ≤ s'.next
  live : ∀ n o, s'.heap.get n = some o → (∃ p, s.heap.get n = some p) ∨ s.next ≤ n
  newn : ∀ n ni, ι' n = some ni → ι n = some ni ∨ s.next ≤ n
  blk : ∀ n o ni, s'.heap.get n = some o → ι' n = some ni → w.heap.size ≤ ni.blk ∨ ∃ m p mi, s.heap.get m = some p ∧ ι m = some mi ∧ mi.blk = ni.blk

theorem OR.mono {ι ι' : Inj} (hx : Ext ι ι') {w w' : World} {ni : NI} (hw : w'.heap[ni.blk]? = w.heap[ni.blk]?) {o : AObj} (h : OR ι w ni o) : OR ι' w' ni o := by
  cases o with
  | cells cs esz ro =>
    obtain ⟨c, e, fr, h1, h2, h3, h4, h5, h6⟩ := h
    exact ⟨c, e, fr, hw ▸ h1, h2, h3, h4, h5.mono hx, h6⟩
  | map es clock =>
    obtain ⟨es', h1, h2, h3⟩ := h
    exact ⟨es', hw ▸ h1, h2.mono hx, h3⟩
  | iter m since seen stepped =>
    obtain ⟨m', h1, h2, h3⟩ := h
    refine ⟨m', hw ▸ h1, ?_, h3⟩
    cases h2 with
    | none => exact .none
    | some n ni h => exact .some n ni (hx n ni h)
  | chan cap buf closed =>
    obtain ⟨b, s, r, h1, h2⟩ := h
    exact ⟨b, s, r, hw ▸ h1, h2.mono hx⟩

theorem OR.blk {ι : Inj} {w : World} {ni : NI} {o : AObj} (h : OR ι w ni o) : ni.blk < w.heap.size := by
  have : ∃ x, w.heap[ni.blk]? = some x := by
    cases o with
    | cells cs esz ro => obtain ⟨c, e, fr, h1, _⟩ := h; exact ⟨_, h1⟩
    | map es clock => obtain ⟨es', h1, _⟩ := h; exact ⟨_, h1⟩
    | iter m since seen stepped => obtain ⟨m', h1, _⟩ := h; exact ⟨_, h1⟩
    | chan cap buf closed => obtain ⟨b, s, r, h1, _⟩ := h; exact ⟨_, h1⟩
  obtain ⟨x, hx⟩ := this
  exact (Array.getElem?_eq_some_iff.1 hx).1

theorem Post.refl {ι : Inj} {s : St} {w : World} (h : SR ι s w) : Post ι s w ι s w where
  ext := Ext.refl ι
  rel := h
  size := Nat.le_refl _
  frame := fun _ _ _ => rfl
  wr := fun n o ni hn ho hni => .inr ⟨n, o, ni, hn, ho, hni, rfl⟩
  calm := Calm.refl w
  next := Nat.le_refl _
  live := fun n o h => .inl ⟨o, h⟩
  newn := fun _ _ h => .inl h
  blk := fun n o ni hn hni => .inr ⟨n, o, ni, hn, hni, rfl⟩

/-- What hangs on the heap alone. -/
theorem SR.of_heap {ι : Inj} {s : St} {w w' : World} (h : SR ι s w) (hw : w'.heap = w.heap) : SR ι s w' where
  obj := fun n o hn => let ⟨ni, h1, h2⟩ := h.obj n o hn; ⟨ni, h1, h2.mono (Ext.refl ι) (by rw [hw])⟩
  inj := h.inj
  fresh := h.fresh

theorem Post.drawn {ι : Inj} {s : St} {w w' : World} (h : SR ι s w) (hw : w'.heap = w.heap) (hc : Calm w w') : Post ι s w ι s w' where
  ext := Ext.refl ι
  rel := h.of_heap hw
  size := by rw [hw]; exact Nat.le_refl _
  frame := fun _ _ _ => by rw [hw]
  wr := fun n o ni hn ho hni => .inr ⟨n, o, ni, hn, ho, hni, rfl⟩
  calm := hc
  next := Nat.le_refl _
  live := fun n o h => .inl ⟨o, h⟩
  newn := fun _ _ h => .inl h
  blk := fun n o ni hn hni => .inr ⟨n, o, ni, hn, hni, rfl⟩

theorem Post.trans {ι ι' ι'' : Inj} {s s' s'' : St} {w w' w'' : World} (h : Post ι s w ι' s' w') (h' : Post ι' s' w' ι'' s'' w'') : Post ι s w ι'' s'' w'' where
  ext := h.ext.trans h'.ext
  rel := h'.rel
  size := Nat.le_trans h.size h'.size
  frame := fun b hb hf => by
    rw [h'.frame b (Nat.lt_of_lt_of_le hb h.size), h.frame b hb hf]
    intro n o ni hn ho hni he
    rcases h.wr n o ni hn ho hni with hge | ⟨m, p, mi, hm, hp, hmi, heq⟩
    · omega
    · exact hf m p mi hm hp hmi (heq.trans he)
  wr := fun n o ni hn ho hni => by
    rcases h'.wr n o ni hn ho hni with hge | ⟨m, p, mi, hm, hp, hmi, heq⟩
    · exact .inl (Nat.le_trans h.size hge)
    · rcases h.wr m p mi hm hp hmi with hge | ⟨m', p', mi', hm', hp', hmi', heq'⟩
      · exact .inl (heq ▸ hge)
      · exact .inr ⟨m', p', mi', hm', hp', hmi', heq'.trans heq⟩
  calm := h.calm.trans h'.calm
  next := Nat.le_trans h.next h'.next
  live := fun n o hn => by
    rcases h'.live n o hn with ⟨p, hp⟩ | hge
    · exact h.live n p hp
    · exact .inr (Nat.le_trans h.next hge)
  newn := fun n ni hn => by
    rcases h'.newn n ni hn with h1 | hge
    · exact h.newn n ni h1
    · exact .inr (Nat.le_trans h.next hge)
  blk := fun n o ni hn hni => by
    rcases h'.blk n o ni hn hni with hge | ⟨m, p, mi, hm, hmi, heq⟩
    · exact .inl (Nat.le_trans h.size hge)
    · rcases h.blk m p mi hm hmi with hge | ⟨m', p', mi', hm', hmi', heq'⟩
      · exact .inl (heq ▸ hge)
      · exact .inr ⟨m', p', mi', hm', hmi', heq'.trans heq⟩

/-- The world with another object in a block. -/
def wput (w : World) (b : Nat) (o : Obj) : World := { w with heap := w.heap.setIfInBounds b o }

omit Sg in
theorem wput_get (w : World) (b : Nat) (o : Obj) (c : Nat) (hb : b < w.heap.size) : (wput w b o).heap[c]? = if c = b then some o else w.heap[c]? := by
  unfold wput
  by_cases h : c = b
  · subst h; simp [hb]
  · simp [h, Array.getElem?_setIfInBounds_ne (Ne.symm h)]

omit Sg in
theorem wput_size (w : World) (b : Nat) (o : Obj) : (wput w b o).heap.size = w.heap.size := by simp [wput]

omit Sg in
theorem wput_frozen {w : World} {b : Nat} {o o' : Obj} (hb : w.heap[b]? = some o) (h : ∀ off, fzObj (some o') off = fzObj (some o) off) (a : Addr) : (wput w b o').frozen? a = w.frozen? a := by
  rw [frozen_fz, frozen_fz, wput_get _ _ _ _ (Array.getElem?_eq_some_iff.1 hb).1]
  by_cases e : a.block = b
  · rw [if_pos e, e, hb]; exact h _
  · rw [if_neg e]

theorem Post.write {ι : Inj} {s : St} {w : World} (h : SR ι s w) {n : Nat} {o o1 : AObj} {ni : NI} {ob : Obj} (hn : s.heap.get n = some o) (ho : o.wr = true)
    (hni : ι n = some ni) (ho1 : o1.wr = true) (hor : OR ι (wput w ni.blk ob) ni o1) (hz : ∀ a, (wput w ni.blk ob).frozen? a = w.frozen? a) :
    Post ι s w ι { s with heap := s.heap.set n o1 } (wput w ni.blk ob) := by
  have hblk : ni.blk < w.heap.size := by
    obtain ⟨ni', h1, h2⟩ := h.obj n o hn
    rw [hni] at h1; cases h1; exact h2.blk
  refine ⟨Ext.refl ι, ⟨?_, ?_, h.fresh⟩, by rw [wput_size]; exact Nat.le_refl _, ?_, ?_, ⟨rfl, rfl, hz⟩, Nat.le_refl _, ?_, fun _ _ h => .inl h, ?_⟩
  · intro m p hm
    simp only [Tr.get_set] at hm
    by_cases e : m = n
    · subst e
      rw [if_pos rfl] at hm
      cases hm
      exact ⟨ni, hni, hor⟩
    · rw [if_neg e] at hm
      obtain ⟨mi, h1, h2⟩ := h.obj m p hm
      refine ⟨mi, h1, h2.mono (Ext.refl ι) ?_⟩
      rw [wput_get _ _ _ _ hblk, if_neg]
      intro e'
      exact e (h.inj m n p o mi ni hm hn (.inr ho) h1 hni e')
  · intro a b p q ai bi ha hb hwr hai hbi hab
    simp only [Tr.get_set] at ha hb
    have ha' : ∃ p', s.heap.get a = some p' ∧ (p.wr = true → p'.wr = true) := by
      by_cases e : a = n
      · subst e; exact ⟨_, hn, fun _ => ho⟩
      · rw [if_neg e] at ha; exact ⟨_, ha, id⟩
    have hb' : ∃ p', s.heap.get b = some p' ∧ (q.wr = true → p'.wr = true) := by
      by_cases e : b = n
      · subst e; exact ⟨_, hn, fun _ => ho⟩
      · rw [if_neg e] at hb; exact ⟨_, hb, id⟩
    obtain ⟨p', ha', wa⟩ := ha'
    obtain ⟨q', hb', wb⟩ := hb'
    exact h.inj a b p' q' ai bi ha' hb' (hwr.elim (fun h => .inl (wa h)) (fun h => .inr (wb h))) hai hbi hab
  · intro b hb hf
    rw [wput_get _ _ _ _ hblk, if_neg]
    intro e
    exact hf n o ni hn ho hni e.symm
  · intro m p mi hm hp hmi
    simp only [Tr.get_set] at hm
    by_cases e : m = n
    · subst e
      rw [hni] at hmi; cases hmi
      exact .inr ⟨m, o, ni, hn, ho, hni, rfl⟩
    · rw [if_neg e] at hm
      exact .inr ⟨m, p, mi, hm, hp, hmi, rfl⟩
  · intro m p hm
    simp only [Tr.get_set] at hm
    by_cases e : m = n
    · subst e; exact .inl ⟨o, hn⟩
    · rw [if_neg e] at hm; exact .inl ⟨p, hm⟩
  · intro m p mi hm hmi
    simp only [Tr.get_set] at hm
    by_cases e : m = n
    · subst e
      exact .inr ⟨m, o, mi, hn, hmi, rfl⟩
    · rw [if_neg e] at hm
      exact .inr ⟨m, p, mi, hm, hmi, rfl⟩

def upd (ι : Inj) (n : Nat) (ni : NI) : Inj := fun m => if m = n then some ni else ι m

omit Sg in
theorem upd_same (ι : Inj) (n : Nat) (ni : NI) : upd ι n ni n = some ni := by simp [upd]
omit Sg in
theorem upd_ne (ι : Inj) {n m : Nat} (ni : NI) (h : m ≠ n) : upd ι n ni m = ι m := by simp [upd, h]

omit Sg in
theorem Ext.upd {ι : Inj} {n : Nat} (ni : NI) (h : ι n = none) : Ext ι (upd ι n ni) := by
  intro m mi hm
  rw [upd_ne]
  · exact hm
  · intro e; subst e; rw [h] at hm; cases hm

/-- The world with a block more. -/
def wpush (w : World) (o : Obj) : World := { w with heap := w.heap.push o }

omit Sg in
theorem wpush_get (w : World) (o : Obj) (c : Nat) : (wpush w o).heap[c]? = if c = w.heap.size then some o else w.heap[c]? := by
  unfold wpush
  rw [Array.getElem?_push]

omit Sg in
theorem wpush_size (w : World) (o : Obj) : (wpush w o).heap.size = w.heap.size + 1 := by simp [wpush]

omit Sg in
theorem wpush_frozen {w : World} {o : Obj} (h : ∀ off, fzObj (some o) off = false) (a : Addr) : (wpush w o).frozen? a = w.frozen? a := by
  rw [frozen_fz, frozen_fz, wpush_get]
  by_cases e : a.block = w.heap.size
  · rw [if_pos e, h, e]; simp [fzObj]
  · rw [if_neg e]

/-- A block more, under a name that nobody bears. -/
theorem SR.push {ι : Inj} {s : St} {w : World} (h : SR ι s w) {n nx : Nat} {o : AObj} {ni : NI} {ob : Obj} (hι : ι n = none)
    (hblk : ni.blk = w.heap.size) (hnx : s.next ≤ nx) (hn' : n < nx) (hor : OR (upd ι n ni) (wpush w ob) ni o) :
    SR (upd ι n ni) { heap := s.heap.set n o, next := nx } (wpush w ob) := by
  have hnone : s.heap.get n = none := by
    cases hg : s.heap.get n with
    | none => rfl
    | some p => obtain ⟨mi, h1, _⟩ := h.obj n p hg; rw [hι] at h1; cases h1
  have hold : ∀ m p mi, s.heap.get m = some p → ι m = some mi → mi.blk < w.heap.size := by
    intro m p mi hm hmi
    obtain ⟨mi', h1, h2⟩ := h.obj m p hm
    rw [hmi] at h1; cases h1; exact h2.blk
  refine ⟨?_, ?_, ?_⟩
  · intro m p hm
    simp only [Tr.get_set] at hm
    by_cases e : m = n
    · subst e
      rw [if_pos rfl] at hm; cases hm
      exact ⟨ni, upd_same .., hor⟩
    · rw [if_neg e] at hm
      obtain ⟨mi, h1, h2⟩ := h.obj m p hm
      refine ⟨mi, by rw [upd_ne _ _ e]; exact h1, h2.mono (Ext.upd ni hι) ?_⟩
      rw [wpush_get, if_neg]
      have := h2.blk
      omega
  · intro a b p q ai bi ha hb hwr hai hbi hab
    simp only [Tr.get_set] at ha hb
    by_cases ea : a = n
    · by_cases eb : b = n
      · rw [ea, eb]
      · subst ea
        rw [upd_same] at hai; cases hai
        rw [if_neg eb] at hb
        rw [upd_ne _ _ eb] at hbi
        have := hold b q bi hb hbi
        omega
    · by_cases eb : b = n
      · subst eb
        rw [upd_same] at hbi; cases hbi
        rw [if_neg ea] at ha
        rw [upd_ne _ _ ea] at hai
        have := hold a p ai ha hai
        omega
      · rw [if_neg ea] at ha
        rw [if_neg eb] at hb
        rw [upd_ne _ _ ea] at hai
        rw [upd_ne _ _ eb] at hbi
        exact h.inj a b p q ai bi ha hb hwr hai hbi hab
  · intro m mi hm
    by_cases e : m = n
    · subst e; exact hn'
    · rw [upd_ne _ _ e] at hm
      exact Nat.lt_of_lt_of_le (h.fresh m mi hm) hnx

theorem Post.push {ι : Inj} {s : St} {w : World} (h : SR ι s w) {o : AObj} {ni : NI} {ob : Obj}
    (hblk : ni.blk = w.heap.size) (hor : OR (upd ι s.next ni) (wpush w ob) ni o) (hz : ∀ off, fzObj (some ob) off = false) :
    Post ι s w (upd ι s.next ni) { heap := s.heap.set s.next o, next := s.next + 1 } (wpush w ob) := by
  have hι : ι s.next = none := by
    cases hg : ι s.next with
    | none => rfl
    | some mi => have := h.fresh _ _ hg; omega
  refine ⟨Ext.upd ni hι, h.push hι hblk (by omega) (by omega) hor, by rw [wpush_size]; omega, ?_, ?_, ⟨rfl, rfl, wpush_frozen hz⟩, by show s.next ≤ s.next + 1; omega, ?_, ?_, ?_⟩
  · intro b hb _
    rw [wpush_get, if_neg (by omega)]
  · intro m p mi hm hp hmi
    simp only [Tr.get_set] at hm
    by_cases e : m = s.next
    · subst e
      rw [upd_same] at hmi; cases hmi
      exact .inl (by omega)
    · rw [if_neg e] at hm
      rw [upd_ne _ _ e] at hmi
      exact .inr ⟨m, p, mi, hm, hp, hmi, rfl⟩
  · intro m p hm
    simp only [Tr.get_set] at hm
    by_cases e : m = s.next
    · exact .inr (by omega)
    · rw [if_neg e] at hm; exact .inl ⟨p, hm⟩
  · intro m mi hm
    by_cases e : m = s.next
    · exact .inr (by omega)
    · rw [upd_ne _ _ e] at hm; exact .inl hm
  · intro m p mi hm hmi
    simp only [Tr.get_set] at hm
    by_cases e : m = s.next
    · subst e
      rw [upd_same] at hmi; cases hmi
      exact .inl (by omega)
    · rw [if_neg e] at hm
      rw [upd_ne _ _ e] at hmi
      exact .inr ⟨m, p, mi, hm, hmi, rfl⟩

/-- With fewer names. -/
theorem SR.sub {ι : Inj} {s s' : St} {w : World} (h : SR ι s w) (hsub : ∀ n o, s'.heap.get n = some o → s.heap.get n = some o) (hn : s.next ≤ s'.next) : SR ι s' w where
  obj := fun n o hn => h.obj n o (hsub n o hn)
  inj := fun n m o p ni mi hn hm => h.inj n m o p ni mi (hsub n o hn) (hsub m p hm)
  fresh := fun n ni hni => Nat.lt_of_lt_of_le (h.fresh n ni hni) hn

/-! ### the environment -/
structure TyOk (P : Program) (t : Nat) (ti : TI) : Prop where
  info : ∃ i, P.info? t = some i ∧ i.size = ti.size ∧ i.bytes = ti.bytes ∧ ∃ z, i.zero = some z ∧ z.cells.toList = ti.zero ∧ (isAgg ti.und = true → z = .agg ⟨ti.zero⟩) ∧ (isAgg ti.und = false → ti.zero = [z])
  und : P.underlying t = some ti.und
  plain : ∀ v ∈ ti.zero, plainV v = true
  eqs : isAgg ti.und = true → P.eqGuardType P.depth t = false ∧ P.stoodInHeld t = false

def Code.drawsOk (ok : Nat → Array Oper → Bool) : Code → Bool
  | .region id ops draw => cond draw (ok id ops) true
  | .seq a b => drawsOk ok a && drawsOk ok b
  | .cond _ a b => drawsOk ok a && drawsOk ok b
  | .block _ c => drawsOk ok c
  | .loop c => drawsOk ok c
  | _ => true

def argsOk (vs : List Value) (ws : Array Value) (ι : Inj) : Prop := LR ι vs ws.toList

/-- What a prim says is so of the function. -/
def PrimOk (P : Program) (f : FuncId) (p : List Value → St → Option (Value × St)) : Prop :=
  ∀ (args : List Value) (s : St) (v : Value) (s' : St), p args s = some (v, s') → ∀ (ι : Inj) (w : World) (ws : List Value), SR ι s w → LR ι args ws →
    Calls P f ⟨ws⟩ w fun e w' => ∃ ι' v', e = .returned v' ∧ VR ι' v v' ∧ Post ι s w ι' s' w'

/-- A call comes to what the shadow says: it is entered, or answered at once. -/
def CallDone (P : Program) (ι : Inj) (s : St) (w : World) (g : FuncId) (ws : List Value) (v : Value) (s' : St) : Prop :=
  ((callFunc g ⟨ws⟩).run P w = .ok (.enter g ⟨ws⟩) w ∧ Calls P g ⟨ws⟩ w fun e w' => ∃ ι' v', e = .returned v' ∧ VR ι' v v' ∧ Post ι s w ι' s' w') ∨
  ∃ v' w' ι', (callFunc g ⟨ws⟩).run P w = .ok (.value v') w' ∧ VR ι' v v' ∧ Post ι s w ι' s' w'

theorem CallDone.calls {P : Program} {ι : Inj} {s : St} {w : World} {g : FuncId} {ws : List Value} {v : Value} {s' : St} (h : CallDone P ι s w g ws v s') (hen : ∀ as w, (callFunc g as).run P w = .ok (.enter g as) w) :
    Calls P g ⟨ws⟩ w fun e w' => ∃ ι' v', e = .returned v' ∧ VR ι' v v' ∧ Post ι s w ι' s' w' := by
  rcases h with ⟨_, h⟩ | ⟨v', w', ι', h, _⟩
  · exact h
  · rw [hen] at h; cases h

/-- What a prim says is so of the function, entered or not. -/
def PrimDone (P : Program) (f : FuncId) (p : List Value → St → Option (Value × St)) : Prop :=
  ∀ (args : List Value) (s : St) (v : Value) (s' : St), p args s = some (v, s') → ∀ (ι : Inj) (w : World) (ws : List Value), SR ι s w → LR ι args ws → CallDone P ι s w f ws v s'

theorem PrimDone.of {P : Program} {f : FuncId} {p : List Value → St → Option (Value × St)} (h : PrimOk P f p) (hen : ∀ as w, (callFunc f as).run P w = .ok (.enter f as) w) : PrimDone P f p :=
  fun args s v s' hp ι w ws hs hl => .inl ⟨hen _ _, h args s v s' hp ι w ws hs hl⟩

end Go.Sh

namespace Go.Sh
open Go

variable [Sg : Sig]

/-! ### small runs -/
section
variable {P : Program} (w : World)

omit Sg in
theorem TyOk.run_und {t : Nat} {ti : TI} (h : TyOk P t ti) : (underlying t).run P w = .ok ti.und w := run_underlying h.und w

omit Sg in
theorem TyOk.run_info {t : Nat} {ti : TI} (h : TyOk P t ti) : ∃ i, (typeInfo t).run P w = .ok i w ∧ i.size = ti.size ∧ i.bytes = ti.bytes := by
  obtain ⟨i, hi, h1, h2, _⟩ := h.info
  exact ⟨i, by simp [typeInfo, hi], h1, h2⟩

omit Sg in
theorem TyOk.run_size {t : Nat} {ti : TI} (h : TyOk P t ti) : (sizeOf t).run P w = .ok ti.size w := by
  obtain ⟨i, hi, h1, _⟩ := h.info
  simp [sizeOf, typeInfo, hi, h1]

omit Sg in
theorem TyOk.run_zero {t : Nat} {ti : TI} (h : TyOk P t ti) : ∃ z, (zeroValue t).run P w = .ok z w ∧ z.cells.toList = ti.zero ∧ (isAgg ti.und = true → z = .agg ⟨ti.zero⟩) ∧ (isAgg ti.und = false → ti.zero = [z]) := by
  obtain ⟨i, hi, _, _, z, hz, h1, h2⟩ := h.info
  exact ⟨z, by simp [zeroValue, typeInfo, hi, hz], h1, h2⟩

omit Sg in
theorem run_isAgg {t : Nat} {d : TypeDesc} (h : P.underlying t = some d) : (Go.isAgg t).run P w = .ok (isAgg d) w := by
  cases d <;> simp [Go.isAgg, run_underlying h, isAgg]

end

/-! ### rows -/
omit Sg in
theorem takeN_eq : ∀ {n : Nat} {l r : List Value}, takeN n l = some r → r = l.take n ∧ n ≤ l.length := by
  intro n
  induction n with
  | zero => intro l r h; simp [takeN] at h; subst h; simp
  | succ n ih =>
    intro l r h
    cases l with
    | nil => simp [takeN] at h
    | cons v vs =>
      simp only [takeN] at h
      cases hr : takeN n vs with
      | none => rw [hr] at h; cases h
      | some r' =>
        rw [hr] at h; cases h
        obtain ⟨h1, h2⟩ := ih hr
        subst h1
        exact ⟨rfl, by simp; omega⟩

omit Sg in
theorem takeN_some {n : Nat} {l : List Value} (h : n ≤ l.length) : takeN n l = some (l.take n) := by
  induction n generalizing l with
  | zero => simp [takeN]
  | succ n ih => cases l with
    | nil => simp at h
    | cons v vs => simp [takeN, ih (by simpa using h)]

omit Sg in
theorem setN_eq : ∀ {cs : List Value} {off : Nat} {vs r : List Value}, setN cs off vs = some r →
    r = cs.take off ++ vs ++ cs.drop (off + vs.length) ∧ off + vs.length ≤ cs.length := by
  intro cs
  induction cs with
  | nil =>
    intro off vs r h
    cases off with
    | zero => cases vs with
      | nil => simp [setN] at h; subst h; simp
      | cons v vs => simp [setN] at h
    | succ off => simp [setN] at h
  | cons c cs ih =>
    intro off vs r h
    cases off with
    | zero => cases vs with
      | nil => simp [setN] at h; subst h; simp
      | cons v vs =>
        simp only [setN] at h
        cases hr : setN cs 0 vs with
        | none => rw [hr] at h; cases h
        | some r' =>
          rw [hr] at h; cases h
          obtain ⟨h1, h2⟩ := ih hr
          subst h1
          exact ⟨by simp, by simp at h2 ⊢; omega⟩
    | succ off =>
      simp only [setN] at h
      cases hr : setN cs off vs with
      | none => rw [hr] at h; cases h
      | some r' =>
        rw [hr] at h; cases h
        obtain ⟨h1, h2⟩ := ih hr
        exact ⟨by rw [h1]; simp [Nat.add_right_comm], by simp; omega⟩

omit Sg in
theorem setN_some {cs vs : List Value} {off : Nat} (h : off + vs.length ≤ cs.length) : setN cs off vs = some (cs.take off ++ vs ++ cs.drop (off + vs.length)) := by
  induction cs generalizing off vs with
  | nil => cases off with
    | zero => cases vs with
      | nil => simp [setN]
      | cons => simp at h
    | succ off => simp at h
  | cons c cs ih => cases off with
    | zero => cases vs with
      | nil => simp [setN]
      | cons v vs =>
        have := ih (off := 0) (vs := vs) (by simpa using h)
        simp only [setN, this]; simp
    | succ off =>
      have := ih (off := off) (vs := vs) (by simp at h; omega)
      simp only [setN, this]; simp [Nat.add_right_comm]

theorem setN_LR {ι : Inj} {cs cs' vs vs' r : List Value} {off : Nat} (hc : LR ι cs cs') (hv : LR ι vs vs') (h : setN cs off vs = some r) :
    LR ι r (cs'.take off ++ vs' ++ cs'.drop (off + vs'.length)) := by
  obtain ⟨h1, _⟩ := setN_eq h
  subst h1
  rw [← hv.length]
  exact ((hc.take off).append hv).append (hc.drop _)

omit Sg in
theorem sizeIs_iff : ∀ {n : Nat} {l : List Value}, sizeIs n l = true ↔ l.length = n := by
  intro n
  induction n with
  | zero => intro l; cases l <;> simp [sizeIs]
  | succ n ih => intro l; cases l with
    | nil => simp [sizeIs]
    | cons v vs => simp [sizeIs, ih]

omit Sg in
theorem cellsOf_eq (v : Value) : cellsOf v = v.cells.toList := by cases v <;> simp [cellsOf, Value.cells]

omit Sg in
theorem cells_one {v : Value} (h : isCell v = true) : v.cells.toList = [v] := by
  cases v <;> first | rfl | cases h

theorem VR.cells {ι : Inj} {v v' : Value} (h : VR ι v v') : LR ι (cellsOf v) v'.cells.toList := by
  cases h with
  | agg xs ys h => exact h
  | any k n _ h => rw [cells_one (isCell_word h)]; exact .cons _ _ _ _ (.any k n _ h) .nil
  | sym k n m => rw [cells_one (isCell_word (Sg.word n))]; exact .cons _ _ _ _ (.sym k n m) .nil
  | _ => exact .cons _ _ _ _ (by constructor <;> assumption) .nil

/-! ### operands -/
/-- What a shadow operand stands for. -/
def Env' (ι : Inj) (ρ : Operand → Option Value) (ρ' : Operand → Value) : Prop := ∀ x v, ρ x = some v → VR ι v (ρ' x)

theorem evalL_LR {ι : Inj} {ρ : Operand → Option Value} {ρ' : Operand → Value} (hρ : Env' ι ρ ρ') : ∀ {l : List Operand} {vs : List Value}, evalL ρ l = some vs → LR ι vs (l.map ρ') := by
  intro l
  induction l with
  | nil => intro vs h; simp [evalL] at h; subst h; exact .nil
  | cons x xs ih =>
    intro vs h
    simp only [evalL] at h
    cases hx : ρ x with
    | none => rw [hx] at h; cases h
    | some v =>
      rw [hx] at h
      cases hr : evalL ρ xs with
      | none => rw [hr] at h; cases h
      | some r => rw [hr] at h; cases h; exact .cons _ _ _ _ (hρ x v hx) (ih hr)

/-- Parts of a literal. -/
inductive PR (ι : Inj) : List (Nat × Value) → List (Nat × Value) → Prop
  | nil : PR ι [] []
  | cons (i : Nat) (v w : Value) (vs ws : List (Nat × Value)) (h : VR ι v w) (hs : PR ι vs ws) : PR ι ((i, v) :: vs) ((i, w) :: ws)

theorem evalP_PR {ι : Inj} {ρ : Operand → Option Value} {ρ' : Operand → Value} (hρ : Env' ι ρ ρ') : ∀ {l : List (Nat × Operand)} {vs : List (Nat × Value)}, evalP ρ l = some vs → PR ι vs (l.map fun (i, x) => (i, ρ' x)) := by
  intro l
  induction l with
  | nil => intro vs h; simp [evalP] at h; subst h; exact .nil
  | cons x xs ih =>
    intro vs h
    obtain ⟨i, x⟩ := x
    simp only [evalP] at h
    cases hx : ρ x with
    | none => rw [hx] at h; cases h
    | some v =>
      rw [hx] at h
      cases hr : evalP ρ xs with
      | none => rw [hr] at h; cases h
      | some r => rw [hr] at h; cases h; exact .cons _ _ _ _ _ (hρ x v hx) (ih hr)

/-! ### a part of a row -/
theorem partAt_run {P : Program} {ι : Inj} {t : Nat} {ti : TI} (hT : TyOk P t ti) {cs : List Value} {cs' : Array Value} {off : Nat} {v : Value}
    (hc : LR ι cs cs'.toList) (h : partAt ti cs off = some v) (w : World) : ∃ v', (part t cs' off).run P w = .ok v' w ∧ VR ι v v' := by
  unfold partAt at h
  cases ha : isAgg ti.und with
  | true =>
    simp only [ha, cond_true] at h
    cases hr : takeN ti.size (cs.drop off) with
    | none => rw [hr] at h; cases h
    | some r =>
      rw [hr] at h; cases h
      obtain ⟨h1, h2⟩ := takeN_eq hr
      subst h1
      refine ⟨.agg (cs'.extract off (off + ti.size)), by simp [part, run_isAgg w hT.und, ha, hT.run_size], ?_⟩
      have : cs'.extract off (off + ti.size) = ⟨(cs'.toList.drop off).take ti.size⟩ := by
        apply array_eq_of_toList
        simp [Array.toList_extract, List.extract]
      rw [this]
      exact .agg _ _ ((hc.drop off).take _)
  | false =>
    simp only [ha, cond_false] at h
    have hx : cs[off]? = some v := by simpa [List.head?_drop] using h
    obtain ⟨y, hy, hv⟩ := hc.get hx
    refine ⟨y, ?_, hv⟩
    have hy' : cs'[off]? = some y := by simpa using hy
    simp [part, run_isAgg w hT.und, ha, hy']

/-! ### fill -/
omit Sg in
theorem foldl_set (l : List Value) : ∀ (off k : Nat) (cells : Array Value), off + k + l.length ≤ cells.size →
    ((l.zipIdx k).foldl (fun (cs : Array Value) (c, j) => cs.setIfInBounds (off + j) c) cells).toList = cells.toList.take (off + k) ++ l ++ cells.toList.drop (off + k + l.length) := by
  induction l with
  | nil => intro off k cells h; simp
  | cons v l ih =>
    intro off k cells h
    simp only [List.zipIdx_cons, List.foldl_cons]
    rw [ih _ _ _ (by simp at h ⊢; omega)]
    simp only [Array.toList_setIfInBounds, List.length_cons]
    have hlt : off + k < cells.toList.length := by simp at h ⊢; omega
    rw [List.set_eq_take_append_cons_drop, if_pos hlt]
    have e1 : (cells.toList.take (off + k) ++ v :: cells.toList.drop (off + k + 1)).take (off + (k + 1)) = cells.toList.take (off + k) ++ [v] := by
      rw [List.take_append]
      have : (cells.toList.take (off + k)).length = off + k := by rw [List.length_take]; omega
      rw [this, show off + (k + 1) - (off + k) = 1 from by omega, List.take_of_length_le (by rw [this]; omega)]
      simp
    have e2 : (cells.toList.take (off + k) ++ v :: cells.toList.drop (off + k + 1)).drop (off + (k + 1) + l.length) = cells.toList.drop (off + k + (l.length + 1)) := by
      rw [List.drop_append]
      have : (cells.toList.take (off + k)).length = off + k := by rw [List.length_take]; omega
      rw [this, List.drop_of_length_le (by rw [this]; omega), show off + (k + 1) + l.length - (off + k) = l.length + 1 from by omega]
      simp [Nat.add_assoc, Nat.add_comm, Nat.add_left_comm]
    rw [e1, e2]
    simp

omit Sg in
theorem fill_one {place : Nat → Option (Nat × Nat)} {cells : Array Value} {i off size : Nat} {v : Value} {rest : List (Nat × Value)} (hp : place i = some (off, size))
    (hs : v.cells.size = size) (hl : off + size ≤ cells.size) :
    Instr.fill place cells ((i, v) :: rest) = Instr.fill place ⟨cells.toList.take off ++ v.cells.toList ++ cells.toList.drop (off + size)⟩ rest := by
  simp only [Instr.fill, hp]
  rw [if_neg (by simp [hs]; omega)]
  congr 1
  apply array_eq_of_toList
  rw [← Array.foldl_toList]
  have := foldl_set v.cells.toList off 0 cells (by simp; omega)
  simp only [Nat.add_zero] at this
  rw [Array.toList_zipIdx, this]
  simp [hs]

structure Env.Ok (E : Env) (P : Program) : Prop where
  ty : ∀ t ti, E.ty.get t = some ti → TyOk P t ti
  fn : ∀ f fn, E.fn.get f = some fn → P.funcs[f]? = some fn
  enter : ∀ f fn, E.fn.get f = some fn → fn.body.isSome = true → ∀ args w, (callFunc f args).run P w = .ok (.enter f args) w
  prim : ∀ f p, E.prim f = some p → PrimDone P f p
  mixed : P.follows .mixedOrders = true
  orc : ∀ op u v r, E.orc op u v = some r → ∀ (ι : Inj) u' v' t w, VR ι u u' → VR ι v v' → ¬ (u' = .nilIface ∧ v' = .nilIface) ∧ (∀ xs, u' ≠ .agg xs) ∧ ∃ r', (binOp op t u' v').run P w = .ok r' w ∧ VR ι r r'
  room : ∀ n, E.room n = true → ∃ k m, Sg.sym n = .int k m ∧ 0 ≤ m ∧ m.toNat ≤ 5000

theorem fillS_fill {E : Env} {ι : Inj} {fs : List Field} {places : Array (Nat × Nat)}
    (hpl : ∀ (i : Nat) (f : Field) (tf : TI), fs[i]? = some f → E.ty.get f.type = some tf → places[i]? = some (f.offset, tf.size)) :
    ∀ {parts parts' : List (Nat × Value)} {cells r : List Value} {cells' : Array Value}, PR ι parts parts' → LR ι cells cells'.toList → fillS E fs parts cells = some r →
      ∃ r', Instr.fill (places[·]?) cells' parts' = some r' ∧ LR ι r r'.toList := by
  intro parts
  induction parts with
  | nil =>
    intro parts' cells r cells' hp hc h
    cases hp
    simp [fillS] at h; subst h
    exact ⟨cells', by simp [Instr.fill], hc⟩
  | cons p parts ih =>
    intro parts' cells r cells' hp hc h
    cases hp with
    | cons i v v' vs ws hv hs =>
      simp only [fillS] at h
      cases hf : fs[i]? with
      | none => rw [hf] at h; cases h
      | some f =>
        simp only [hf] at h
        cases ht : E.ty.get f.type with
        | none => rw [ht] at h; cases h
        | some tf =>
          simp only [ht] at h
          cases hz : sizeIs tf.size (cellsOf v) with
          | false => rw [hz] at h; cases h
          | true =>
            simp only [hz, cond_true] at h
            cases hn : setN cells f.offset (cellsOf v) with
            | none => rw [hn] at h; cases h
            | some c =>
              simp only [hn] at h
              have hlen : (cellsOf v).length = tf.size := sizeIs_iff.1 hz
              have hvc := hv.cells
              have hsz : v'.cells.size = tf.size := by have := hvc.length; simp at this; omega
              have hcl := hc.length
              obtain ⟨h1, h2⟩ := setN_eq hn
              have hb : f.offset + tf.size ≤ cells'.size := by simp at hcl; omega
              have hfo := fill_one (cells := cells') (rest := ws) (hpl i f tf hf ht) hsz hb
              have hLR := setN_LR hc hvc hn
              have hvl : v'.cells.toList.length = tf.size := by simp [hsz]
              rw [hvl] at hLR
              obtain ⟨r', hr1, hr2⟩ := ih (cells' := ⟨cells'.toList.take f.offset ++ v'.cells.toList ++ cells'.toList.drop (f.offset + tf.size)⟩) hs hLR h
              exact ⟨r', by rw [hfo]; exact hr1, hr2⟩

theorem fillA_fill {ι : Inj} {size : Nat} : ∀ {parts parts' : List (Nat × Value)} {cells r : List Value} {cells' : Array Value}, PR ι parts parts' → LR ι cells cells'.toList →
    fillA size parts cells = some r → ∃ r', Instr.fill (fun i => some (i * size, size)) cells' parts' = some r' ∧ LR ι r r'.toList := by
  intro parts
  induction parts with
  | nil =>
    intro parts' cells r cells' hp hc h
    cases hp
    simp [fillA] at h; subst h
    exact ⟨cells', by simp [Instr.fill], hc⟩
  | cons p parts ih =>
    intro parts' cells r cells' hp hc h
    cases hp with
    | cons i v v' vs ws hv hs =>
      simp only [fillA] at h
      cases hz : sizeIs size (cellsOf v) with
      | false => rw [hz] at h; cases h
      | true =>
        simp only [hz, cond_true] at h
        cases hn : setN cells (i * size) (cellsOf v) with
        | none => rw [hn] at h; cases h
        | some c =>
          simp only [hn] at h
          have hlen : (cellsOf v).length = size := sizeIs_iff.1 hz
          have hvc := hv.cells
          have hsz : v'.cells.size = size := by have := hvc.length; simp at this; omega
          have hcl := hc.length
          obtain ⟨h1, h2⟩ := setN_eq hn
          have hb : i * size + size ≤ cells'.size := by simp at hcl; omega
          have hfo := fill_one (place := fun i => some (i * size, size)) (cells := cells') (rest := ws) (i := i) rfl hsz hb
          have hLR := setN_LR hc hvc hn
          have hvl : v'.cells.toList.length = size := by simp [hsz]
          rw [hvl] at hLR
          obtain ⟨r', hr1, hr2⟩ := ih (cells' := ⟨cells'.toList.take (i * size) ++ v'.cells.toList ++ cells'.toList.drop (i * size + size)⟩) hs hLR h
          exact ⟨r', by rw [hfo]; exact hr1, hr2⟩

/-! ### what touches no memory -/
omit Sg in
theorem known_mem {E : Env} : ∀ {fs : List Field}, known E fs = true → ∀ f ∈ fs, (E.ty.get f.type).isSome = true := by
  intro fs
  induction fs with
  | nil => intro _ f hf; cases hf
  | cons g fs ih =>
    intro h f hf
    simp only [known, Bool.and_eq_true] at h
    rcases List.mem_cons.1 hf with rfl | hf
    · exact h.1
    · exact ih h.2 f hf

/-- The places of a struct's fields, as the build asks for them. -/
theorem run_places {E : Env} {P : Program} (hE : E.Ok P) : ∀ (fs : List Field), known E fs = true → ∀ w, ∃ pl : List (Nat × Nat),
    (fs.mapM fun f => (do pure (f.offset, ← sizeOf f.type) : Sem (Nat × Nat))).run P w = .ok pl w ∧
    ∀ (i : Nat) (f : Field) (tf : TI), fs[i]? = some f → E.ty.get f.type = some tf → pl[i]? = some (f.offset, tf.size) := by
  intro fs
  induction fs with
  | nil => intro _ w; exact ⟨[], by simp, fun i f tf h => by simp at h⟩
  | cons g fs ih =>
    intro h w
    simp only [known, Bool.and_eq_true] at h
    obtain ⟨tg, htg⟩ := Option.isSome_iff_exists.1 h.1
    obtain ⟨pl, h1, h2⟩ := ih h.2 w
    refine ⟨(g.offset, tg.size) :: pl, by simp only [List.mapM_cons, Sem.run_bind, (hE.ty _ _ htg).run_size w, Result.andThen_ok, Sem.run_pure, h1], ?_⟩
    intro i f tf hi hf
    cases i with
    | zero =>
      simp at hi; subst hi
      rw [htg] at hf; cases hf
      rfl
    | succ i => simpa using h2 i f tf (by simpa using hi) hf

theorem run_placesA {E : Env} {P : Program} (hE : E.Ok P) (fs : Array Field) (h : known E fs.toList = true) (w : World) : ∃ pl : Array (Nat × Nat),
    (fs.mapM fun f => (do pure (f.offset, ← sizeOf f.type) : Sem (Nat × Nat))).run P w = .ok pl w ∧
    ∀ (i : Nat) (f : Field) (tf : TI), fs.toList[i]? = some f → E.ty.get f.type = some tf → pl[i]? = some (f.offset, tf.size) := by
  obtain ⟨pl, h1, h2⟩ := run_places hE fs.toList h w
  refine ⟨pl.toArray, ?_, fun i f tf hi hf => by simpa using h2 i f tf hi hf⟩
  have : (fs.mapM fun f => (do pure (f.offset, ← sizeOf f.type) : Sem (Nat × Nat))) = List.toArray <$> (fs.toList.mapM fun f => (do pure (f.offset, ← sizeOf f.type) : Sem (Nat × Nat))) := by
    rw [Array.mapM_eq_mapM_toList]
  rw [this, Sem.run_map, h1]
  rfl

end Go.Sh

namespace Go.Sh
open Go

variable [Sg : Sig]

/-- The operation comes to a value that the shadow's stands for; the world stays. -/
def Meets (P : Program) (ι : Inj) (ρ' : Operand → Value) (o : Oper) (v : Value) (w : World) : Prop :=
  ∃ v', (execOp ρ' o).run P w = .ok (.value v') w ∧ VR ι v v'

omit Sg in
theorem aint_run {P : Program} {op : BinOp} {k : IntKind} {a b : Int} {v : Value} (h : aint op k a b = some v) (hs : op ≠ .shl) (hs' : op ≠ .shr) (t : TypeId) (w : World) :
    (binOp op t (.int k a) (.int k b)).run P w = .ok v w ∧ plainV v = true := by
  cases op <;> simp only [aint] at h <;> first
    | (cases h; exact ⟨by simp [binOp, Op.intArith, Op.intBits, Op.intCmp], rfl⟩)
    | (split at h
       · cases h
       · rename_i hb
         cases h
         exact ⟨by simp [binOp, Op.intDiv, hb], rfl⟩)
    | (exact absurd rfl hs)
    | (exact absurd rfl hs')
    | cases h

omit Sg in
theorem ashift_run {P : Program} {op : BinOp} {k k' : IntKind} {a b : Int} {v : Value} (h : ashift op k a b = some v) (t : TypeId) (w : World) :
    (binOp op t (.int k a) (.int k' b)).run P w = .ok v w ∧ plainV v = true := by
  unfold ashift at h
  split at h
  · cases h
  · rename_i hb
    cases op <;> simp only at h <;> first | (cases h; done) | skip
    all_goals
      cases h
      exact ⟨by simp [binOp, Op.shift, hb], rfl⟩

omit Sg in
theorem toList_eq (b : ByteArray) : b.toList = b.data.toList := ByteArray.toList_eq b

omit Sg in
theorem astr_run {P : Program} {op : BinOp} {a b : ByteArray} {v : Value} (h : astr op a b = some v) (t : TypeId) (w : World) :
    (binOp op t (.string a) (.string b)).run P w = .ok v w ∧ plainV v = true := by
  cases op <;> simp only [astr] at h <;> first
    | (cases h; exact ⟨by simp [binOp, Op.stringOp, toList_eq], rfl⟩)
    | (split at h
       · cases h
       · rename_i hb
         cases h
         exact ⟨by simp only [binOp, Op.stringOp]; rw [if_neg hb]; rfl, rfl⟩)
    | cases h

omit Sg in
theorem guard_run {P : Program} {op : BinOp} {t : TypeId} {x y : Operand} {a b : Value} (w : World)
    (h : ¬ (a = .nilIface ∧ b = .nilIface)) (ha : ∀ xs ys, a = .agg xs → b = .agg ys → P.eqGuardType P.depth t = false) : (eqGuard op t x y a b).run P w = .ok () w := by
  unfold eqGuard
  cases op <;> first | rfl | skip
  all_goals
    cases a <;> cases b <;> first | rfl | (exact absurd ⟨rfl, rfl⟩ h) | (have hg := ha _ _ rfl rfl; simp [hg])

omit Sg in
theorem bool_eq_run {P : Program} {t : TypeId} (a b : Bool) (w : World) (h : P.underlying t = some .bool) :
    (binOp .eql t (.bool a) (.bool b)).run P w = .ok (.bool (a == b)) w ∧ (binOp .neq t (.bool a) (.bool b)).run P w = .ok (.bool (!(a == b))) w := by
  have e : ∀ d, (Op.equalIn (d + 1) t (.bool a) (.bool b)).run P w = .ok (a == b) w := fun d => run_equalIn_bool w d t a b h
  have e' : (Op.equal t (.bool a) (.bool b)).run P w = .ok (a == b) w := e 9999
  constructor
  · show ((Op.equal t (.bool a) (.bool b) >>= fun r => pure (Value.bool r) : Sem Value)).run P w = _
    rw [Sem.run_bind, e']; rfl
  · show ((Op.equal t (.bool a) (.bool b) >>= fun r => pure (Value.bool (!r)) : Sem Value)).run P w = _
    rw [Sem.run_bind, e']; rfl

omit Sg in
theorem max2_run {P : Program} (w : World) : ∀ {vs : List Value} {v r : Value}, max2 true v vs = some r → plainV v = true → (vs.foldlM Builtin.max2 v).run P w = .ok r w ∧ plainV r = true := by
  intro vs
  induction vs with
  | nil => intro v r h hp; simp [max2] at h; subst h; exact ⟨by simp, hp⟩
  | cons u vs ih =>
    intro v r h hp
    cases v <;> cases u <;> simp only [max2] at h <;> first | (cases h; done) | skip
    obtain ⟨h1, h2⟩ := ih h rfl
    refine ⟨?_, h2⟩
    simp only [List.foldlM_cons, Builtin.max2, Sem.run_bind, Sem.run_pure, Result.andThen_ok]
    exact h1

omit Sg in
theorem min2_run {P : Program} (w : World) : ∀ {vs : List Value} {v r : Value}, max2 false v vs = some r → plainV v = true → (vs.foldlM Builtin.min2 v).run P w = .ok r w ∧ plainV r = true := by
  intro vs
  induction vs with
  | nil => intro v r h hp; simp [max2] at h; subst h; exact ⟨by simp, hp⟩
  | cons u vs ih =>
    intro v r h hp
    cases v <;> cases u <;> simp only [max2] at h <;> first | (cases h; done) | skip
    obtain ⟨h1, h2⟩ := ih h rfl
    refine ⟨?_, h2⟩
    simp only [List.foldlM_cons, Builtin.min2, Sem.run_bind, Sem.run_pure, Result.andThen_ok]
    exact h1

theorem VR.plain_eq {ι : Inj} {v v' : Value} (h : VR ι v v') : (∀ k n, v = .int k n → v' = .int k n) ∧ (∀ b, v = .bool b → v' = .bool b) ∧ (∀ s, v = .string s → v' = .string s) := by
  cases h <;> simp

section
variable {E : Env} {P : Program} {ι : Inj} {ρ : Operand → Option Value} {ρ' : Operand → Value}

theorem int_of {x : Operand} {k : IntKind} {n : Int} (hρ : Env' ι ρ ρ') (h : ρ x = some (.int k n)) : ρ' x = .int k n := (hρ _ _ h).plain_eq.1 _ _ rfl
theorem bool_of {x : Operand} {b : Bool} (hρ : Env' ι ρ ρ') (h : ρ x = some (.bool b)) : ρ' x = .bool b := (hρ _ _ h).plain_eq.2.1 _ rfl
theorem str_of {x : Operand} {b : ByteArray} (hρ : Env' ι ρ ρ') (h : ρ x = some (.string b)) : ρ' x = .string b := (hρ _ _ h).plain_eq.2.2 _ rfl

theorem meets_binOp (hE : E.Ok P) (hρ : Env' ι ρ ρ') {o : Oper} {op : BinOp} {t : TypeId} {x y : Operand} {yt : TypeId} {v : Value} (ho : o.op = .binOp op t x y yt) (h : apure E ρ o = some v) (w : World) :
    Meets P ι ρ' o v w := by
  unfold apure at h
  simp only [ho] at h
  have fin : ∀ a b, ρ' x = a → ρ' y = b → ¬ (a = .nilIface ∧ b = .nilIface) → (∀ xs ys, a = .agg xs → b = .agg ys → P.eqGuardType P.depth t = false) → (binOp op t a b).run P w = .ok v w → plainV v = true → Meets P ι ρ' o v w := by
    intro a b hx hy h1 h2 h3 h4
    refine ⟨v, ?_, plainV_VR h4⟩
    unfold execOp
    simp only [ho, hx, hy]
    simp [guard_run w h1 h2, h3]
  cases hx : ρ x with
  | none => rw [hx] at h; cases h
  | some a => cases hy : ρ y with
    | none => rw [hx, hy] at h; cases a <;> cases h
    | some b =>
      rw [hx, hy] at h
      cases a <;> cases b <;> first | (cases h; done) | skip
      case int.int k a k' b =>
        have e1 := int_of hρ hx
        have e2 := int_of hρ hy
        by_cases hl : op = .shl
        · subst hl
          obtain ⟨g1, g2⟩ := ashift_run (P := P) h t w (k' := k')
          exact fin _ _ e1 e2 (by simp) (by intros; simp_all) g1 g2
        by_cases hr : op = .shr
        · subst hr
          obtain ⟨g1, g2⟩ := ashift_run (P := P) h t w (k' := k')
          exact fin _ _ e1 e2 (by simp) (by intros; simp_all) g1 g2
        have h' : (if k = k' then aint op k a b else none) = some v := by cases op <;> first | exact h | exact absurd rfl hl | exact absurd rfl hr
        split at h'
        · rename_i hk
          subst hk
          obtain ⟨g1, g2⟩ := aint_run (P := P) h' hl hr t w
          exact fin _ _ e1 e2 (by simp) (by intros; simp_all) g1 g2
        · cases h'
      case string.string a b =>
        obtain ⟨g1, g2⟩ := astr_run (P := P) h t w
        exact fin _ _ (str_of hρ hx) (str_of hρ hy) (by simp) (by intros; simp_all) g1 g2
      case bool.bool a b =>
        cases ht : E.ty.get t with
        | none => simp only [ht] at h; cases h
        | some ti =>
          simp only [ht] at h
          have hu := (hE.ty t ti ht).und
          cases hd : ti.und <;> simp only [hd] at h <;> first | (cases h; done) | skip
          rw [hd] at hu
          cases op <;> simp only at h <;> first | (cases h; done) | skip
          · cases h
            exact fin _ _ (bool_of hρ hx) (bool_of hρ hy) (by simp) (by intros; simp_all) (bool_eq_run a b w hu).1 rfl
          · cases h
            exact fin _ _ (bool_of hρ hx) (bool_of hρ hy) (by simp) (by intros; simp_all) (bool_eq_run a b w hu).2 rfl
      all_goals
        simp only [isSym, Bool.true_or, Bool.or_true, cond_true] at h
        obtain ⟨g1, g2, r', g3, g4⟩ := hE.orc _ _ _ _ h ι (ρ' x) (ρ' y) t w (hρ _ _ hx) (hρ _ _ hy)
        refine ⟨r', ?_, g4⟩
        unfold execOp
        simp only [ho]
        rw [Sem.run_bind, Sem.run_bind, guard_run w g1 (fun xs ys e _ => absurd e (g2 xs))]
        simp [g3]

end
end Go.Sh
