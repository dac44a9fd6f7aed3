/-
  A shadow interpreter for the model's operations: how a shadow state and a world hang together. (No program in it.)
-/
import Derived.Test.YtnhofgbjmofcnaaGreatRShB
namespace Go.Sh
open Go

theorem isCell_word {v : Value} (h : isWord v = true) : isCell v = true := by
  cases v <;> first | rfl | cases h

/-! ### tries -/
theorem nat_beq_eq {a b : Nat} : Nat.beq a b = decide (a = b) := by
  by_cases h : a = b
  · subst h; simp
  · have : Nat.beq a b = false := by
      cases hb : Nat.beq a b
      · rfl
      · exact absurd (Nat.eq_of_beq_eq_true hb) h
    rw [this]; simp [h]

theorem Tr.get_leaf {α : Type} (n : Nat) : (Tr.leaf : Tr α).get n = none := by unfold Tr.get; rfl

theorem Tr.get_node {α : Type} (l r : Tr α) (v : Option α) (n : Nat) :
    (Tr.node l v r).get n = if n = 0 then v else if n % 2 = 1 then l.get (n / 2) else r.get (n / 2 - 1) := by
  conv => lhs; unfold Tr.get
  simp only [nat_beq_eq]
  by_cases h : n = 0
  · simp [h]
  · by_cases h2 : n % 2 = 1 <;> simp [h, h2]

theorem Tr.get_one {α : Type} (f : Nat) : ∀ (n m : Nat) (a : α), n ≤ f → (Tr.one f n a).get m = if m = n then some a else none := by
  induction f with
  | zero =>
    intro n m a h
    obtain rfl : n = 0 := by omega
    unfold Tr.one
    rw [Tr.get_node]
    by_cases hm : m = 0
    · simp [hm]
    · by_cases h2 : m % 2 = 1 <;> simp [hm, h2, Tr.get_leaf]
  | succ f ih =>
    intro n m a h
    unfold Tr.one
    simp only [nat_beq_eq]
    by_cases hn : n = 0
    · simp only [hn, decide_true, cond_true]
      rw [Tr.get_node]
      by_cases hm : m = 0
      · simp [hm]
      · by_cases h2 : m % 2 = 1 <;> simp [hm, h2, Tr.get_leaf]
    · by_cases h1 : n % 2 = 1
      · simp only [hn, h1, decide_false, decide_true, cond_true, cond_false]
        rw [Tr.get_node]
        by_cases hm : m = 0
        · simp only [hm, if_true]; rw [if_neg (by omega)]
        · by_cases h2 : m % 2 = 1
          · simp only [hm, h2, if_false, if_true]
            rw [ih _ _ _ (by omega)]
            by_cases e : m = n
            · simp [e]
            · rw [if_neg (by omega), if_neg e]
          · simp only [hm, h2, if_false, Tr.get_leaf]; rw [if_neg (by omega)]
      · simp only [hn, h1, decide_false, cond_false]
        rw [Tr.get_node]
        by_cases hm : m = 0
        · simp only [hm, if_true]; rw [if_neg (by omega)]
        · by_cases h2 : m % 2 = 1
          · simp only [hm, h2, if_false, if_true, Tr.get_leaf]; rw [if_neg (by omega)]
          · simp only [hm, h2, if_false]
            rw [ih _ _ _ (by omega)]
            by_cases e : m = n
            · simp [e]
            · rw [if_neg (by omega), if_neg e]

theorem Tr.get_set {α : Type} (t : Tr α) : ∀ (n m : Nat) (a : α), (t.set n a).get m = if m = n then some a else t.get m := by
  induction t with
  | leaf => intro n m a; unfold Tr.set; rw [Tr.get_one _ _ _ _ (Nat.le_refl _), Tr.get_leaf]
  | node l v r ihl ihr =>
    intro n m a
    conv => lhs; unfold Tr.set
    simp only [nat_beq_eq]
    by_cases hn : n = 0
    · simp only [hn, decide_true, cond_true]
      rw [Tr.get_node, Tr.get_node]
      by_cases hm : m = 0 <;> simp [hm]
    · by_cases h1 : n % 2 = 1
      · simp only [hn, h1, decide_false, decide_true, cond_true, cond_false]
        rw [Tr.get_node, Tr.get_node]
        by_cases hm : m = 0
        · simp only [hm, if_true]; rw [if_neg (by omega)]
        · by_cases h2 : m % 2 = 1
          · simp only [hm, h2, if_false, if_true]
            rw [ihl]
            by_cases e : m = n
            · simp [e]
            · rw [if_neg (by omega), if_neg e]
          · simp only [hm, h2, if_false]; rw [if_neg (by omega)]
      · simp only [hn, h1, decide_false, cond_false]
        rw [Tr.get_node, Tr.get_node]
        by_cases hm : m = 0
        · simp only [hm, if_true]; rw [if_neg (by omega)]
        · by_cases h2 : m % 2 = 1
          · simp only [hm, h2, if_false, if_true]; rw [if_neg (by omega)]
          · simp only [hm, h2, if_false]
            rw [ihr]
            by_cases e : m = n
            · simp [e]
            · rw [if_neg (by omega), if_neg e]

theorem Tr.get_del {α : Type} (t : Tr α) : ∀ (n m : Nat), (t.del n).get m = if m = n then none else t.get m := by
  induction t with
  | leaf => intro n m; unfold Tr.del; rw [Tr.get_leaf]; simp
  | node l v r ihl ihr =>
    intro n m
    conv => lhs; unfold Tr.del
    simp only [nat_beq_eq]
    by_cases hn : n = 0
    · simp only [hn, decide_true, cond_true]
      rw [Tr.get_node, Tr.get_node]
      by_cases hm : m = 0 <;> simp [hm]
    · by_cases h1 : n % 2 = 1
      · simp only [hn, h1, decide_false, decide_true, cond_true, cond_false]
        rw [Tr.get_node, Tr.get_node]
        by_cases hm : m = 0
        · simp only [hm, if_true]; rw [if_neg (by omega)]
        · by_cases h2 : m % 2 = 1
          · simp only [hm, h2, if_false, if_true]
            rw [ihl]
            by_cases e : m = n
            · simp [e]
            · rw [if_neg (by omega), if_neg e]
          · simp only [hm, h2, if_false]; rw [if_neg (by omega)]
      · simp only [hn, h1, decide_false, cond_false]
        rw [Tr.get_node, Tr.get_node]
        by_cases hm : m = 0
        · simp only [hm, if_true]; rw [if_neg (by omega)]
        · by_cases h2 : m % 2 = 1
          · simp only [hm, h2, if_false, if_true]; rw [if_neg (by omega)]
          · simp only [hm, h2, if_false]
            rw [ihr]
            by_cases e : m = n
            · simp [e]
            · rw [if_neg (by omega), if_neg e]

/-! ### names and blocks -/
structure NI where
  blk : Nat
  d : Nat
  sa : Nat
  sc : Nat
  esz : Option Nat

abbrev Inj := Nat → Option NI

/-- A slice's capacity, in the shadow and in the world. -/
def CapOk (ni : NI) (off cap cap' : Nat) : Prop :=
  cap' = cap ∨ ∃ k, 0 < k ∧ ni.esz = some k ∧ off + cap * k = ni.sa ∧ ni.d + off + cap' * k = ni.sc

/-- What the values stand for that stand for others. -/
class Sig where
  sym : Nat → Value
  word : ∀ n, isWord (sym n) = true

variable [Sg : Sig]

mutual
inductive VR (ι : Inj) : Value → Value → Prop
  | bool (b : Bool) : VR ι (.bool b) (.bool b)
  | int (k : IntKind) (n : Int) : VR ι (.int k n) (.int k n)
  | any (k : FloatKind) (n : Nat) (v : Value) (h : isWord v = true) : VR ι (.float k n) v
  | sym (k : FloatKind) (n m : Nat) : VR ι (.complex k n m) (Sg.sym n)
  | string (s : ByteArray) : VR ι (.string s) (.string s)
  | pnil : VR ι (.pointer none) (.pointer none)
  | ptr (n off : Nat) (ni : NI) (h : ι n = some ni) : VR ι (.pointer (some ⟨n, off, none⟩)) (.pointer (some ⟨ni.blk, ni.d + off, none⟩))
  | snil (l c : Nat) : VR ι (.slice none l c) (.slice none l c)
  | slice (n off len cap cap' : Nat) (ni : NI) (h : ι n = some ni) (hc : CapOk ni off cap cap') (hle : cap ≤ cap') :
      VR ι (.slice (some ⟨n, off, none⟩) len cap) (.slice (some ⟨ni.blk, ni.d + off, none⟩) len cap')
  | szero (a a' : Addr) : VR ι (.slice (some a) 0 0) (.slice (some a') 0 0)
  | mnil : VR ι (.map none) (.map none)
  | map (n : Nat) (ni : NI) (h : ι n = some ni) : VR ι (.map (some n)) (.map (some ni.blk))
  | cnil : VR ι (.chan none) (.chan none)
  | chan (n : Nat) (ni : NI) (h : ι n = some ni) : VR ι (.chan (some n)) (.chan (some ni.blk))
  | func (fn : Fn) (xs ys us vs : List Value) (h1 : LR ι xs us) (h2 : LR ι ys vs) : VR ι (.func fn ⟨xs⟩ ⟨ys⟩) (.func fn ⟨us⟩ ⟨vs⟩)
  | nilFunc : VR ι .nilFunc .nilFunc
  | iface (t : TypeId) (v w : Value) (h : VR ι v w) : VR ι (.iface t v) (.iface t w)
  | nilIface : VR ι .nilIface .nilIface
  | agg (xs ys : List Value) (h : LR ι xs ys) : VR ι (.agg ⟨xs⟩) (.agg ⟨ys⟩)
  | tuple (xs ys : List Value) (h : LR ι xs ys) : VR ι (.tuple ⟨xs⟩) (.tuple ⟨ys⟩)
inductive LR (ι : Inj) : List Value → List Value → Prop
  | nil : LR ι [] []
  | cons (x y : Value) (xs ys : List Value) (h : VR ι x y) (hs : LR ι xs ys) : LR ι (x :: xs) (y :: ys)
end

def Ext (ι ι' : Inj) : Prop := ∀ n ni, ι n = some ni → ι' n = some ni

omit Sg in
theorem Ext.refl (ι : Inj) : Ext ι ι := fun _ _ h => h
omit Sg in
theorem Ext.trans {ι ι' ι'' : Inj} (h : Ext ι ι') (h' : Ext ι' ι'') : Ext ι ι'' := fun n ni e => h' n ni (h n ni e)

mutual
theorem VR.mono {ι ι' : Inj} (hx : Ext ι ι') : ∀ {v w : Value}, VR ι v w → VR ι' v w
  | _, _, .bool b => .bool b
  | _, _, .int k n => .int k n
  | _, _, .any k n v h => .any k n v h
  | _, _, .sym k n m => .sym k n m
  | _, _, .string s => .string s
  | _, _, .pnil => .pnil
  | _, _, .ptr n off ni h => .ptr n off ni (hx n ni h)
  | _, _, .snil l c => .snil l c
  | _, _, .slice n off len cap cap' ni h hc hle => .slice n off len cap cap' ni (hx n ni h) hc hle
  | _, _, .szero a a' => .szero a a'
  | _, _, .mnil => .mnil
  | _, _, .map n ni h => .map n ni (hx n ni h)
  | _, _, .cnil => .cnil
  | _, _, .chan n ni h => .chan n ni (hx n ni h)
  | _, _, .func fn xs ys us vs h1 h2 => .func fn xs ys us vs (h1.mono hx) (h2.mono hx)
  | _, _, .nilFunc => .nilFunc
  | _, _, .iface t v w h => .iface t v w (h.mono hx)
  | _, _, .nilIface => .nilIface
  | _, _, .agg xs ys h => .agg xs ys (h.mono hx)
  | _, _, .tuple xs ys h => .tuple xs ys (h.mono hx)
theorem LR.mono {ι ι' : Inj} (hx : Ext ι ι') : ∀ {v w : List Value}, LR ι v w → LR ι' v w
  | _, _, .nil => .nil
  | _, _, .cons x y xs ys h hs => .cons x y xs ys (h.mono hx) (hs.mono hx)
end

theorem LR.length {ι : Inj} {xs ys : List Value} (h : LR ι xs ys) : xs.length = ys.length := by
  induction xs generalizing ys with
  | nil => cases h; rfl
  | cons x xs ih => cases h with | cons _ _ _ _ _ hs => simp [ih hs]

theorem LR.append {ι : Inj} {xs ys us vs : List Value} (h : LR ι xs us) (h' : LR ι ys vs) : LR ι (xs ++ ys) (us ++ vs) := by
  induction xs generalizing us with
  | nil => cases h; exact h'
  | cons x xs ih => cases h with | cons _ _ _ _ hx hs => exact .cons _ _ _ _ hx (ih hs)

theorem LR.get {ι : Inj} {xs ys : List Value} (h : LR ι xs ys) {i : Nat} {x : Value} (hx : xs[i]? = some x) : ∃ y, ys[i]? = some y ∧ VR ι x y := by
  induction xs generalizing ys i with
  | nil => simp at hx
  | cons a xs ih => cases h with
    | cons _ b _ bs hab hs =>
      cases i with
      | zero => simp at hx; subst hx; exact ⟨b, by simp, hab⟩
      | succ i => simpa using ih hs (by simpa using hx)

theorem LR.of_get {ι : Inj} {xs ys : List Value} (hl : xs.length = ys.length) (h : ∀ (i : Nat) x y, xs[i]? = some x → ys[i]? = some y → VR ι x y) : LR ι xs ys := by
  induction xs generalizing ys with
  | nil => cases ys with | nil => exact .nil | cons => simp at hl
  | cons a xs ih => cases ys with
    | nil => simp at hl
    | cons b ys =>
      refine .cons _ _ _ _ (h 0 a b (by simp) (by simp)) (ih (by simpa using hl) fun i x y hx hy => h (i + 1) x y (by simpa using hx) (by simpa using hy))

theorem LR.drop {ι : Inj} {xs ys : List Value} (h : LR ι xs ys) : ∀ (n : Nat), LR ι (xs.drop n) (ys.drop n) := by
  induction xs generalizing ys with
  | nil => cases h; intro n; simp; exact .nil
  | cons a xs ih => cases h with
    | cons _ b _ bs hab hs =>
      intro n
      cases n with
      | zero => exact .cons _ _ _ _ hab hs
      | succ n => simpa using ih hs n

theorem LR.take {ι : Inj} {xs ys : List Value} (h : LR ι xs ys) : ∀ (n : Nat), LR ι (xs.take n) (ys.take n) := by
  induction xs generalizing ys with
  | nil => cases h; intro n; simp; exact .nil
  | cons a xs ih => cases h with
    | cons _ b _ bs hab hs =>
      intro n
      cases n with
      | zero => exact .nil
      | succ n => simpa using LR.cons _ _ _ _ hab (ih hs n)

/-! ### plain values stand for themselves -/
omit Sg in
theorem allV_mem {p : Value → Bool} {l : List Value} : allV p l = true ↔ ∀ v ∈ l, p v = true := by
  induction l with
  | nil => simp [allV]
  | cons a l ih => simp [allV, ih]

theorem LR.self {ι : Inj} {l : List Value} (h : ∀ v ∈ l, VR ι v v) : LR ι l l := by
  induction l with
  | nil => exact .nil
  | cons a l ih => exact .cons _ _ _ _ (h a (by simp)) (ih fun v hv => h v (by simp [hv]))

theorem plainN_VR {ι : Inj} (n : Nat) : ∀ {v : Value}, plainN n v = true → VR ι v v := by
  induction n with
  | zero =>
    intro v h
    cases v with
    | pointer a => cases a <;> simp [plainN] at h; exact .pnil
    | slice a l c => cases a with
      | none => exact .snil _ _
      | some a => simp [plainN] at h
    | map r => cases r <;> simp [plainN] at h; exact .mnil
    | chan r => cases r <;> simp [plainN] at h; exact .cnil
    | bool => exact .bool _
    | int => exact .int _ _
    | string => exact .string _
    | nilFunc => exact .nilFunc
    | nilIface => exact .nilIface
    | _ => simp [plainN] at h
  | succ n ih =>
    intro v h
    cases v with
    | pointer a => cases a <;> simp [plainN] at h; exact .pnil
    | slice a l c => cases a with
      | none => exact .snil _ _
      | some a => simp [plainN] at h
    | map r => cases r <;> simp [plainN] at h; exact .mnil
    | chan r => cases r <;> simp [plainN] at h; exact .cnil
    | bool => exact .bool _
    | int => exact .int _ _
    | string => exact .string _
    | nilFunc => exact .nilFunc
    | nilIface => exact .nilIface
    | float => simp [plainN] at h
    | complex => simp [plainN] at h
    | func fn xs ys =>
      simp only [plainN, Bool.and_eq_true, allV_mem] at h
      exact .func fn xs.toList ys.toList xs.toList ys.toList (.self fun v hv => ih (h.1 v hv)) (.self fun v hv => ih (h.2 v hv))
    | iface t v => simp only [plainN] at h; exact .iface _ _ _ (ih h)
    | agg xs => simp only [plainN, allV_mem] at h; exact .agg xs.toList xs.toList (.self fun v hv => ih (h v hv))
    | tuple xs => simp only [plainN, allV_mem] at h; exact .tuple xs.toList xs.toList (.self fun v hv => ih (h v hv))

theorem plainV_VR {ι : Inj} {v : Value} (h : plainV v = true) : VR ι v v := plainN_VR 6 h

theorem undef_VR (ι : Inj) : VR ι undef undef := .tuple [] [] .nil

/-! ### sameV -/
omit Sg in
theorem sameA_eq {a b : Option Addr} (h : sameA a b = true) : a = b := by
  cases a with
  | none => cases b <;> simp [sameA] at h; rfl
  | some a => cases b with
    | none => simp [sameA] at h
    | some b =>
      obtain ⟨ab, ao, as⟩ := a
      obtain ⟨bb, bo, bs⟩ := b
      simp [sameA, nat_beq_eq] at h
      obtain ⟨⟨⟨rfl, rfl⟩, h3⟩, h4⟩ := h
      simp [h3, h4]

omit Sg in
theorem sameO_eq {a b : Option Nat} (h : sameO a b = true) : a = b := by
  cases a <;> cases b <;> simp [sameO, nat_beq_eq] at h ⊢
  exact h

omit Sg in
theorem sameL_eq {p : Value → Value → Bool} (hp : ∀ x y, p x y = true → x = y) : ∀ {xs ys : List Value}, sameL p xs ys = true → xs = ys := by
  intro xs
  induction xs with
  | nil => intro ys h; cases ys <;> simp [sameL] at h; rfl
  | cons x xs ih => intro ys h; cases ys with
    | nil => simp [sameL] at h
    | cons y ys =>
      simp [sameL] at h
      rw [hp _ _ h.1, ih h.2]

omit Sg in
theorem sameBytes_eq {a b : ByteArray} (h : sameBytes a b = true) : a = b := by
  obtain ⟨⟨a⟩⟩ := a
  obtain ⟨⟨b⟩⟩ := b
  simp [sameBytes] at h
  rw [h]

omit Sg in
theorem array_eq_of_toList {xs ys : Array Value} (h : xs.toList = ys.toList) : xs = ys := by
  obtain ⟨xs⟩ := xs
  obtain ⟨ys⟩ := ys
  simp at h; rw [h]

omit Sg in
theorem sameN_eq (n : Nat) : ∀ {x y : Value}, sameN n x y = true → x = y := by
  induction n with
  | zero =>
    intro x y h
    cases x <;> cases y <;> simp [sameN, nat_beq_eq] at h
    all_goals first
      | rfl
      | (rw [h])
      | (rw [h.1, h.2])
      | (rw [sameBytes_eq h])
      | (rw [sameA_eq h])
      | (rw [sameO_eq h])
      | (rw [sameA_eq h.1.1, h.1.2, h.2])
      | (rw [h.1, h.2.1, h.2.2])
  | succ n ih =>
    intro x y h
    have ih' : ∀ x y, sameN n x y = true → x = y := fun x y h => ih h
    cases x <;> cases y <;> simp [sameN, nat_beq_eq] at h
    all_goals first
      | rfl
      | (rw [h])
      | (rw [h.1, h.2])
      | (rw [sameBytes_eq h])
      | (rw [sameA_eq h])
      | (rw [sameO_eq h])
      | (rw [sameA_eq h.1.1, h.1.2, h.2])
      | (rw [h.1, h.2.1, h.2.2])
      | (rw [h.1.1, array_eq_of_toList (sameL_eq ih' h.1.2), array_eq_of_toList (sameL_eq ih' h.2)])
      | (rw [array_eq_of_toList (sameL_eq ih' h)])
      | (rw [h.1, ih h.2])

omit Sg in
theorem sameV_eq {x y : Value} (h : sameV x y = true) : x = y := sameN_eq 6 h

end Go.Sh
