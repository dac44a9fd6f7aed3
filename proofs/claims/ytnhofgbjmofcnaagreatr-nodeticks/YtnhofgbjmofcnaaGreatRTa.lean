/-
  NodeTicks: what the functions do: small ones, the roots. NodeTicks: how a node lies on the heap. NodeTicks: the roots, and what is asked of a reference. NodeTicks: the arena. NodeTicks: the heap's objects.
-/
import Derived.Test.YtnhofgbjmofcnaaGreatRMb
import Derived.Test.YtnhofgbjmofcnaaGreatRLi

namespace Go.Sh
open Go
open Go.Proofs

/-- The numbers a map has. -/
def keysOf (es : List MapEntry) : List Int := es.filterMap fun e => match e.key with
  | .int .u64 k => some k
  | _ => none

/-- The least number above another one. -/
def nextK (es : List MapEntry) (x : Int) : Option Int := match (keysOf es).filter (fun k => decide (x < k)) with
  | [] => none
  | a :: l => some (l.foldl min a)

def u64Key (e : MapEntry) : Bool := match e.key with
  | .int .u64 _ => true
  | _ => false

/-- heap.Next, as it is told. -/
def nxtP (args : List Value) (s : St) : Option (Value × St) := match args with
  | [.pointer (some ⟨n, 0, none⟩), .int .u64 x] => match s.heap.get n with
    | some (.cells row none false) => match (row[4]? : Option Value) with
      | some (Value.map (some m)) => match s.heap.get m with
        | some (.map es _) => cond (es.all u64Key) (some (.tuple #[.int .u64 ((nextK es x).getD 0), .bool (nextK es x).isSome], s)) none
        | _ => none
      | _ => none
    | _ => none
  | _ => none

/-- known, as it is told. -/
def knP (args : List Value) (s : St) : Option (Value × St) := match args with
  | [] => some (.bool true, { s with next := s.next + 557 })
  | _ => none

/-- Which functions are taken as they are told. -/
structure POnly (prim : PrimF) : Prop where
  only : ∀ g, g ≠ 6 → g ≠ 40 → g ≠ 164 → g ≠ 165 → prim g = none
  ins1 : prim 164 = some (insP 1)
  ins15 : prim 165 = some (insP 15)
  nxt : prim 40 = some nxtP
  known : prim 6 = some knP

variable {prim : PrimF} {s : St} {Q : Value → St → Prop}

abbrev idV (a b : Int) : Value := .agg #[.int .i64 a, .int .u64 b]

theorem aeq_int {E : Env} {t d : Nat} {ti : TI} {k k0 : IntKind} {a b : Int} (h : E.ty.get t = some ti) (hu : ti.und = .int k0) : aeq E s (d + 1) t (.int k a) (.int k b) = some (decide (a = b)) := by
  unfold aeq
  rw [h]
  simp only [hu, if_true]
  congr

theorem aeqF_cons {E : Env} {go : Nat → Value → Value → Option Bool} {xs ys : List Value} {f : Field} {fs : List Field} {tf : TI} {a b : Value} {r : Bool} (hn : f.name ≠ "_") (ht : E.ty.get f.type = some tf) (ha : partAt tf xs f.offset = some a)
    (hb : partAt tf ys f.offset = some b) (hr : go f.type a b = some r) : aeqF E go xs ys (f :: fs) = cond r (aeqF E go xs ys fs) (some false) := by
  conv => lhs; unfold aeqF
  rw [if_neg hn, ht]
  simp only [ha, hb, hr]
  cases r <;> rfl

theorem eq54 {a b c d : Int} : eqv0 (tE prim) s 54 (idV a b) (idV c d) = some (decide (a = c) && decide (b = d)) := by
  have h54 : (tE prim).ty.get 54 = some ti54 := rfl
  have h3 : (tE prim).ty.get 3 = some ti3 := rfl
  have h22 : (tE prim).ty.get 22 = some ti22 := rfl
  show aeq (tE prim) s 8 54 (idV a b) (idV c d) = _
  unfold aeq
  rw [h54]
  show aeqF (tE prim) (aeq (tE prim) s 7) [.int .i64 a, .int .u64 b] [.int .i64 c, .int .u64 d] [⟨_, 3, 0, _, _, _, _⟩, ⟨_, 22, 1, _, _, _, _⟩] = _
  rw [aeqF_cons (by decide) h3 (a := .int .i64 a) (b := .int .i64 c) (r := decide (a = c)) rfl rfl (aeq_int h3 rfl)]
  rw [aeqF_cons (by decide) h22 (a := .int .u64 b) (b := .int .u64 d) (r := decide (b = d)) rfl rfl (aeq_int h22 rfl)]
  cases decide (a = c) <;> cases decide (b = d) <;> rfl

theorem POnly.no (hP : POnly prim) (g : Nat) (h : (Nat.beq g 6 || Nat.beq g 40 || Nat.beq g 164 || Nat.beq g 165) = false := by rfl) : prim g = none := by
  simp only [Bool.or_eq_false_iff, nat_beq_eq, decide_eq_false_iff_not] at h
  exact hP.only g h.1.1.1 h.1.1.2 h.1.2 h.2

theorem w64 {x : Int} (h0 : -9223372036854775808 ≤ x) (h1 : x < 9223372036854775808) : IntKind.i64.wrap x = x := by
  unfold IntKind.wrap
  simp [IntKind.bits, IntKind.signed]
  omega

theorem wu64 {x : Int} (h0 : 0 ≤ x) (h1 : x < 18446744073709551616) : IntKind.u64.wrap x = x := by
  unfold IntKind.wrap
  simp [IntKind.bits, IntKind.signed]
  omega

theorem none_ok (hP : POnly prim) (hq : ∀ s', Keep s s' → Q (idV 0 0) s') : WC (tE prim) 63 [] s Q := by
  refine WC_fn (fm63 prim (hP.no _)) rfl ?_
  simp [m63]
  refine hq _ ⟨by first | omega | (simp only; omega), fun n hn => ?_⟩
  simp (disch := omega)

theorem pick_ok (hP : POnly prim) {n m : Int} (hm : 0 < m) (hm2 : m < 4611686018427387904) (hq : ∀ r, 0 ≤ r → r < m → Q (.int .i64 r) s) : WC (tE prim) 57 [.int .i64 n, .int .i64 m] s Q := by
  refine WC_fn (fm57 prim (hP.no _)) rfl ?_
  have hne : m ≠ 0 := by omega
  have h1 := Int.tmod_lt_of_pos n hm
  have h2 : -m < n.tmod m := by
    have := Int.tmod_lt_of_pos (-n) hm
    rw [Int.neg_tmod] at this; omega
  by_cases hneg : n.tmod m < 0
  · have hw : IntKind.i64.wrap (n.tmod m + m) = n.tmod m + m := w64 (by omega) (by omega)
    simp [m57, hne, hneg, hw]
    exact hq _ (by omega) (by omega)
  · simp [m57, hne, hneg]
    exact hq _ (by omega) h1

theorem fields_ok (hP : POnly prim) {n : Int} (hq : Q (.bool (decide (0 ≤ n) && decide (n ≤ 7))) s) : WC (tE prim) 105 [.int .i64 n] s Q := by
  refine WC_fn (fm105 prim (hP.no _)) rfl ?_
  by_cases h : 0 ≤ n
  · simp [m105, h]; simpa [h] using hq
  · simp [m105, h]; simpa [h] using hq

theorem in_ok (hP : POnly prim) {k n : Int} (hq : Q (.bool (decide (0 ≤ k) && decide (k < n))) s) : WC (tE prim) 134 [.int .i64 k, .int .i64 n] s Q := by
  refine WC_fn (fm134 prim (hP.no _)) rfl ?_
  by_cases h : 0 ≤ k
  · simp [m134, h]; simpa [h] using hq
  · simp [m134, h]; simpa [h] using hq

theorem full_ok (hP : POnly prim) {c : Int} (hc : 1 ≤ c) (hc2 : c ≤ 16) (hq : ∀ r, Q (.int .u16 r) s) : WC (tE prim) 128 [.int .i64 c] s Q := by
  refine WC_fn (fm128 prim (hP.no _)) rfl ?_
  have hne : c ≠ 0 := by omega
  have h0 : 0 ≤ (16 : Int).tdiv c := Int.tdiv_nonneg (by omega) (by omega)
  have h1 : (16 : Int).tdiv c ≤ 16 := by
    rw [Int.tdiv_eq_ediv_of_nonneg (by omega)]; exact Int.ediv_le_self _ (by omega)
  have hw : IntKind.i64.wrap ((16 : Int).tdiv c) = (16 : Int).tdiv c := w64 (by omega) (by omega)
  simp [m128, hne, hw, h0]
  exact hq _

theorem local_ok (hP : POnly prim) {N : Nat} {row : List Value} {a b x : Int} (hN : N < s.next) (hr : s.heap.get N = some (.cells row none false)) (h25 : row[25]? = some (.int .i64 x)) (hq : ∀ s', Keep s s' → Q (.bool (decide (a = x))) s') :
    WC (tE prim) 111 [.pointer (some ⟨N, 0, none⟩), idV a b] s Q := by
  refine WC_fn (fm111 prim (hP.no _)) rfl ?_
  simp (disch := omega) [m111, hr, h25]
  refine hq _ ⟨by first | omega | (simp only; omega), fun n hn => ?_⟩
  simp (disch := omega)

theorem why_ok (hP : POnly prim) {e : Int} (hq : ∀ s', Keep s s' → Q (.tuple #[.agg #[.int .i64 e, .int .i64 0, .int .u64 0, .int .u64 0, .int .i64 0, .int .u64 0], .slice none 0 0]) s') :
    WC (tE prim) 59 [.int .i64 e] s Q := by
  refine WC_fn (fm59 prim (hP.no _)) rfl ?_
  simp (disch := omega) [m59]
  refine hq _ ⟨by first | omega | (simp only; omega), fun n hn => ?_⟩
  simp (disch := omega)

theorem names_ok (hP : POnly prim) {k : Int} (hq : Q (.tuple #[.bool (decide (k = 2 ∨ k = 4 ∨ k = 8 ∨ k = 5 ∨ k = 11) || decide (k ≠ 9 ∧ k ≠ 15)), .bool (decide (k = 2 ∨ k = 4 ∨ k = 8 ∨ k = 5 ∨ k = 11)), .bool (decide (k = 5 ∨ k = 11))]) s) :
    WC (tE prim) 103 [.int .i64 k] s Q := by
  refine WC_fn (fm103 prim (hP.no _)) rfl ?_
  by_cases h2 : k = 2
  · subst h2; simpa [m103] using hq
  by_cases h4 : k = 4
  · subst h4; simpa [m103] using hq
  by_cases h8 : k = 8
  · subst h8; simpa [m103] using hq
  by_cases h5 : k = 5
  · subst h5; simpa [m103] using hq
  by_cases h11 : k = 11
  · subst h11; simpa [m103] using hq
  by_cases h9 : k = 9
  · subst h9; simpa [m103] using hq
  by_cases h15 : k = 15
  · subst h15; simpa [m103] using hq
  simpa [m103, h2, h4, h8, h5, h11, h9, h15] using hq

theorem there_in (hP : POnly prim) {r R : Nat} {m t : Int} {rows : List Value} {a : Option Addr} {L c n cap : Nat}
    (h1 : s.heap.get r = some (.cells [.slice (some ⟨R, 0, none⟩) n cap] none false)) (h2 : s.heap.get R = some (.cells rows none false)) (hm : 0 ≤ m ∧ m < n) (h3 : rows[m.toNat]? = some (.slice a L c))
    (hq : Q (.bool (decide (0 ≤ t) && decide (t < L))) s) :
    WC (tE prim) 113 [.pointer (some ⟨r, 0, none⟩), .int .i64 m, .int .i64 t] s Q := by
  refine WC_fn (fm113 prim (hP.no _)) rfl ?_
  by_cases ht : 0 ≤ t
  · simp [m113, h1, h2, hm, h3, ht]; simpa [ht] using hq
  · simp [m113, h1, h2, hm, h3, ht]; simpa [ht] using hq

theorem isNaN_ok (hP : POnly prim) {x : Int} (hq : Q (.bool false) s) : WC (tE prim) 163 [.int .u64 x] s Q := by
  refine WC_fn (fm163 prim (hP.no _)) rfl ?_
  simp [m163]; simpa using hq

theorem isNaN2_ok (hP : POnly prim) {x : Int} (hq : Q (.bool false) s) : WC (tE prim) 150 [.int .u64 x] s Q := by
  refine WC_fn (fm150 prim (hP.no _)) rfl ?_
  simp [m150]; simpa using hq

theorem less_ok (hP : POnly prim) {x y : Int} (hq : Q (.bool (decide (x < y))) s) : WC (tE prim) 149 [.int .u64 x, .int .u64 y] s Q := by
  refine WC_fn (fm149 prim (hP.no _)) rfl ?_
  simp [m149]
  refine isNaN_ok hP ?_
  simp
  exact hq

theorem key_ok (hP : POnly prim) {a b : Int} (hq : ∀ k s', Keep s s' → Q (.int .u64 k) s') : WC (tE prim) 151 [idV a b] s Q := by
  refine WC_fn (fm151 prim (hP.no _)) rfl ?_
  simp (disch := omega) [m151]
  exact hq _ _ ⟨by simp only; omega, fun n hn => by simp (disch := omega)⟩

/-- Where a key is looked for: any place may come of it; of one that is there it is said. -/
theorem search_ok (hP : POnly prim) {a : Option Addr} {n cap : Nat} {xs : List Int} {x : Int} (hn : n ≤ 4096) (hr : n = 0 ∨ ∃ b e ro, a = some ⟨b, 0, none⟩ ∧ s.heap.get b = some (.cells (xs.map (.int .u64)) e ro) ∧ xs.length = n)
    (hq : ∀ i ok, 0 ≤ i → i ≤ (n : Int) → (ok = true → i < n ∧ xs[i.toNat]? = some x) → Q (.tuple #[.int .i64 i, .bool ok]) s) : WC (tE prim) 126 [.slice a n cap, .int .u64 x] s Q := by
  refine WC_fn (fm126 prim (hP.no _)) rfl ?_
  simp (disch := omega) [m126]
  refine loop_rule (fun m ρ s' => s' = s ∧ ρ 0 = .slice a n cap ∧ ρ 1 = .int .u64 x ∧ ρ 6 = .int .i64 n ∧ ∃ i j : Int, ρ 7 = .int .i64 i ∧ ρ 8 = .int .i64 j ∧ 0 ≤ i ∧ i ≤ j ∧ j ≤ n ∧ j - i ≤ m) ?_ n ?_
  · rintro m ρ s' ⟨rfl, h0, h1, h6, i, j, h7, h8, hi, hij, hj, hm⟩
    by_cases hlt : i < j
    · rcases hr with rfl | ⟨b, e, ro, rfl, hr, hlen⟩
      · omega
      have hw : IntKind.i64.wrap (i + j) = i + j := w64 (by omega) (by omega)
      have hu : IntKind.u64.wrap (i + j) = i + j := wu64 (by omega) (by omega)
      have hd : shrI .u64 (i + j) 1 = (i + j) / 2 := Int.fdiv_eq_ediv_of_nonneg _ (by decide)
      have hw2 : IntKind.i64.wrap ((i + j) / 2) = (i + j) / 2 := w64 (by omega) (by omega)
      have hx : (xs.map (Value.int .u64))[((i + j) / 2).toNat]? = some (.int .u64 (xs.getD ((i + j) / 2).toNat 0)) := by
        have : ((i + j) / 2).toNat < xs.length := by omega
        simp [this, List.getD_eq_getElem?_getD]
      have hmid : 0 ≤ (i + j) / 2 ∧ (i + j) / 2 < n := by omega
      simp (disch := omega) [h0, h1, h7, h8, hlt, hw, hu, hd, hw2, IntKind.bits, hr]
      refine less_ok hP ?_
      have hw3 : IntKind.i64.wrap ((i + j) / 2 + 1) = (i + j) / 2 + 1 := w64 (by omega) (by omega)
      by_cases hc : xs[((i + j) / 2).toNat] < x
      · simp (disch := omega) [hc, hw3, h0, h1, h6, h8]
        exact ⟨m - 1, by omega, by omega, by omega, by omega, by omega⟩
      · simp (disch := omega) [hc, h0, h1, h6, h7]
        exact ⟨m - 1, by omega, by omega, by omega, by omega, by omega⟩
    · by_cases hin : i < n
      · rcases hr with rfl | ⟨b, e, ro, rfl, hr, hlen⟩
        · omega
        by_cases he : xs[i.toNat] = x
        · simp (disch := omega) [h0, h1, h6, h7, h8, hlt, hin, hr, he]
          exact hq _ _ hi (by omega) fun _ => ⟨hin, by simp [← he]⟩
        · simp (disch := omega) [h0, h1, h6, h7, h8, hlt, hin, hr, he]
          refine isNaN2_ok hP ?_
          simp (disch := omega)
          exact hq _ _ hi (by omega) fun h => by cases h
      · simp (disch := omega) [h0, h1, h6, h7, h8, hlt, hin]
        exact hq _ _ hi (by omega) fun h => by cases h
  · simp (disch := omega)

end Go.Sh

namespace Go.Sh
open Go
open Go.Proofs

/-- What stands under a name. -/
inductive Ty where
  | no
  | fix (i : Nat)
  | thing
  | refs (k : Nat)
  | vals (k : Nat)
  | keys (k : Nat)
  | cvals (k : Nat)
  | dead

/-- A call that was begun. -/
structure CR where
  to : Int
  num : Int
  op : Int
  field : Int
  tn : Int
  ts : Int
  a : Nat
  value : Int
  b : Nat
  sent : Int

/-- A node's layout: names, rows that stay, numbers. -/
structure Lay where
  nm : Nat → Nat
  row : Nat → List Value
  mu : Nat
  sl : Nat
  nd : Nat
  nb : Nat
  calls : Nat
  ob : Nat
  born : Int
  now : Int

def idCells (l : List (Int × Int)) : List Value := l.flatMap fun x => [.int .i64 x.1, .int .u64 x.2]
def CR.cells (P : Lay) (r : CR) : List Value := [.int .i64 r.to, .int .u64 r.num, .int .i64 r.op, .int .i64 r.field, .int .i64 r.tn, .int .u64 r.ts, .slice (some ⟨r.a, 0, none⟩) 0 0, .int .u64 r.value, .int .i64 1, .int .i64 0,
  .slice (some ⟨r.b, 0, none⟩) 0 0, .int .u64 0, .int .u64 r.sent, .int .u64 0, .int .u64 P.born]

abbrev Lay.p (P : Lay) (i : Nat) : Value := .pointer (some ⟨P.nm i, 0, none⟩)

/-- What the fixed names hold. -/
def FixObj (P : Lay) (ty : Nat → Ty) (i : Nat) (o : AObj) : Prop :=
  match i with
  | 1 => ∃ last, o = .cells [.int .i64 1, .int .i64 P.ob, .int .u64 last, P.p 2, .map (some (P.nm 5))] none false
  | 3 => ∃ xs : List Int, xs.length = P.nb ∧ o = .cells (xs.map (.int .i64)) none false
  | 4 => ∃ xs : List Int, xs.length = P.nb ∧ (∀ x ∈ xs, 0 ≤ x ∧ x < 65536) ∧ o = .cells (xs.map (.int .u16)) none false
  | 5 => ∃ es clock, o = .map es clock ∧ es.length ≤ P.ob ∧ ∀ e ∈ es, ∃ k t, e.key = .int .u64 k ∧ e.val = .pointer (some ⟨t, 0, none⟩) ∧ ty t = .thing
  | 8 => o = .cells [.int .u64 P.now] none false
  | 14 => ∃ n, n ≤ P.calls ∧ ((n = 0 ∧ o = .cells [.slice none 0 0, .slice none 0 0, .int .i64 P.calls] none false) ∨
      ∃ ka va, o = .cells [.slice (some ⟨ka, 0, none⟩) n n, .slice (some ⟨va, 0, none⟩) n n, .int .i64 P.calls] none false ∧ ty ka = .keys n ∧ ty va = .cvals n)
  | 15 => ∃ xs : List Int, xs.length = P.nd + 1 ∧ o = .cells (xs.map (.int .u64)) none false
  | 18 => o = .map [] 0
  | 25 => ∃ ids, ids.length = P.sl ∧ o = .cells (idCells ids) none false
  | 26 => ∃ ids, ids.length = P.sl ∧ o = .cells (idCells ids) none false
  | 27 => ∃ ids, ids.length = P.sl ∧ o = .cells (idCells ids) none false
  | i => o = .cells (P.row i) none false

def TyObj (P : Lay) (ty : Nat → Ty) : Ty → AObj → Prop
  | .fix i, o => FixObj P ty i o
  | .thing, o => ∃ cell r k v l i, o = .cells [.int .i64 cell, .slice (some ⟨r, 0, none⟩) k k, .slice (some ⟨v, 0, none⟩) l l, .int .i64 i] none false ∧ ty r = .refs k ∧ ty v = .vals l ∧ k ≤ 7 ∧ l ≤ 7
  | .refs k, o => ∃ ids, ids.length = k ∧ o = .cells (idCells ids) none false
  | .vals k, o => ∃ xs : List Int, xs.length = k ∧ o = .cells (xs.map (.int .u64)) none false
  | .keys k, o => ∃ xs : List Int, xs.length = k ∧ o = .cells (xs.map (.int .u64)) (some 1) false
  | .cvals k, o => ∃ xs : List CR, xs.length = k ∧ o = .cells (xs.flatMap (CR.cells P)) (some 15) false ∧ ∀ r ∈ xs, ty r.a = .refs 0 ∧ ty r.b = .refs 0
  | .no, _ => True
  | .dead, _ => True

def Ty.live : Ty → Bool
  | .no => false
  | .dead => false
  | _ => true

def Ty.isNo : Ty → Bool
  | .no => true
  | _ => false

/-- Which fixed names there are. -/
def Lay.use (P : Lay) (i : Nat) : Prop := i < 22 ∨ (25 ≤ i ∧ i < 25 + P.mu)

structure Inv (P : Lay) (ty : Nat → Ty) (s : St) : Prop where
  lt : ∀ n, (ty n).isNo = false → n < s.next
  fx : ∀ i, P.use i → ty (P.nm i) = .fix i
  un : ∀ n i, ty n = .fix i → n = P.nm i
  obj : ∀ n, (ty n).live = true → ∃ o, s.heap.get n = some o ∧ TyObj P ty (ty n) o

/-- What belongs to nobody stands as it stood. -/
structure Grow (ty : Nat → Ty) (s : St) (ty' : Nat → Ty) (s' : St) : Prop where
  next : s.next ≤ s'.next
  get : ∀ n, n < s.next → (ty n).isNo = true → (ty' n).isNo = true ∧ s'.heap.get n = s.heap.get n

variable {P : Lay} {ty ty' ty'' : Nat → Ty} {s s' s'' : St}

theorem Grow.refl : Grow ty s ty s := ⟨Nat.le_refl _, fun _ _ h => ⟨h, rfl⟩⟩
theorem Grow.trans (h : Grow ty s ty' s') (h' : Grow ty' s' ty'' s'') : Grow ty s ty'' s'' :=
  ⟨Nat.le_trans h.next h'.next, fun n hn hno => by
    obtain ⟨h1, h2⟩ := h.get n hn hno
    obtain ⟨h3, h4⟩ := h'.get n (Nat.lt_of_lt_of_le hn h.next) h1
    exact ⟨h3, h4.trans h2⟩⟩
theorem Grow.of_keep (h : Keep s s') : Grow ty s ty s' := ⟨h.next, fun n hn hno => ⟨hno, h.get n hn⟩⟩

theorem live_isNo {t : Ty} (h : t.live = true) : t.isNo = false := by cases t <;> first | rfl | cases h

theorem Inv.keep (h : Inv P ty s) (hk : Keep s s') : Inv P ty s' where
  lt := fun n hn => Nat.lt_of_lt_of_le (h.lt n hn) hk.next
  fx := h.fx
  un := h.un
  obj := fun n hn => by
    rw [hk.get n (h.lt n (live_isNo hn))]
    exact h.obj n hn

/-- One name's row is another one of its kind. -/
theorem Inv.set (h : Inv P ty s) {n0 : Nat} {o : AObj} (hl : (ty n0).live = true) (ho : TyObj P ty (ty n0) o) (hn : s.next ≤ s'.next) (hg : ∀ n, n < s.next → n ≠ n0 → s'.heap.get n = s.heap.get n) (h0 : s'.heap.get n0 = some o) :
    Inv P ty s' ∧ Grow ty s ty s' := by
  refine ⟨⟨fun n hn' => Nat.lt_of_lt_of_le (h.lt n hn') hn, h.fx, h.un, fun n hn' => ?_⟩, hn, fun n hn' hno => ⟨hno, hg n hn' ?_⟩⟩
  · by_cases e : n = n0
    · subst e; exact ⟨o, h0, ho⟩
    · rw [hg n (h.lt n (live_isNo hn')) e]; exact h.obj n hn'
  · rintro rfl
    rw [live_isNo hl] at hno; cases hno

theorem Inv.fixed (h : Inv P ty s) (i : Nat) (hi : P.use i) : ∃ o, s.heap.get (P.nm i) = some o ∧ FixObj P ty i o := by
  have h1 := h.fx i hi
  obtain ⟨o, h2, h3⟩ := h.obj (P.nm i) (by rw [h1]; rfl)
  rw [h1] at h3
  exact ⟨o, h2, h3⟩

theorem Inv.const (h : Inv P ty s) (i : Nat) (hi : i < 22) (hc : ∀ o, FixObj P ty i o = (o = .cells (P.row i) none false) := by intro o; rfl) : s.heap.get (P.nm i) = some (.cells (P.row i) none false) := by
  obtain ⟨o, h1, h2⟩ := h.fixed i (.inl hi)
  rw [hc] at h2
  rw [h1, h2]

theorem Inv.ltn (h : Inv P ty s) (i : Nat) (hi : P.use i) : P.nm i < s.next := h.lt _ (by rw [h.fx i hi]; rfl)

theorem Inv.ne (h : Inv P ty s) {i j : Nat} (hi : P.use i) (hj : P.use j) (hij : i ≠ j) : P.nm i ≠ P.nm j := by
  intro e
  have h1 := h.fx i hi
  rw [e, h.fx j hj] at h1
  cases h1; exact hij rfl

/-- What the rows that stay say. -/
structure LayOk (P : Lay) : Prop where
  mu1 : 1 ≤ P.mu
  slp : 1 ≤ P.sl
  mu3 : P.mu ≤ 3
  n : ∃ c : Nat → Int, c 0 = P.nd ∧ c 1 = P.mu ∧ c 2 = P.sl ∧ P.row 0 = [P.p 1, P.p 6, P.p 8, .int .i64 (c 0), .int .i64 (c 1), .int .i64 (c 2), .int .i64 (c 3), .int .i64 (c 4), .int .i64 (c 5), .int .i64 (c 6), .int .i64 (c 7), .int .i64 (c 8),
    .int .i64 (c 9), .int .i64 (c 10), .int .u64 (c 11), .int .u64 (c 12), .int .u64 (c 13), .int .u64 (c 14), .int .u64 (c 15), .int .u64 (c 16), .int .i64 (c 17), .int .i64 (c 18), .int .i64 (c 19), .int .u64 (c 20), .int .u64 (c 21),
    .int .i64 1, P.p 9, P.p 11, P.p 16, P.p 13, P.p 19, P.p 21, .int .u64 0, .int .i64 0, .int .u64 0]
  a : P.row 2 = [.slice (some ⟨P.nm 3, 0, none⟩) P.nb P.nb, .slice (some ⟨P.nm 4, 0, none⟩) P.nb P.nb]
  r : P.row 6 = [.slice (some ⟨P.nm 7, 0, none⟩) P.mu P.mu]
  rr : ∀ m, m < P.mu → (P.row 7)[m]? = some (.slice (some ⟨P.nm (25 + m), 0, none⟩) P.sl P.sl)
  y0 : (P.row 9)[0]? = some (P.p 10)
  y7 : (P.row 9)[7]? = some (.int .i64 0)
  sh : (P.row 10)[0]? = some (.int .i64 0)
  st : (P.row 11)[0]? = some (P.p 12)
  sq : ∃ x, P.row 12 = [.slice none 0 0, .slice none 0 0, x]
  ctn : (P.row 13)[0]? = some (.int .i64 P.nd)
  ctc : (P.row 13)[6]? = some (.int .i64 P.calls)
  ctw : ∃ x, (P.row 13)[7]? = some (.int .i64 x)
  ctp : ∃ x : Int, 1 ≤ x ∧ (P.row 13)[16]? = some (.int .u64 x)
  cts : (P.row 13)[22]? = some (.int .i64 1)
  ctl : (P.row 13)[24]? = some (.slice (some ⟨P.nm 15, 0, none⟩) (P.nd + 1) (P.nd + 1))
  ctq : (P.row 13)[25]? = some (P.p 14)
  scq : (P.row 16)[23]? = some (P.p 17)
  scb : (P.row 16)[24]? = some (.map (some (P.nm 18)))
  sq2 : ∃ x, P.row 17 = [.slice none 0 0, .slice none 0 0, x]
  otq : (P.row 19)[24]? = some (P.p 20)
  oq : ∃ x, P.row 20 = [.slice none 0 0, .slice none 0 0, x]
  tr1 : ∃ x, (P.row 21)[23]? = some (.int .u64 x)
  tr2 : ∃ x, (P.row 21)[24]? = some (.int .i64 x)
  sl1 : P.sl ≤ 64
  nb1 : P.nb ≤ 64
  nd1 : P.nd ≤ 64
  calls1 : P.calls ≤ 64
  ob1 : P.ob ≤ 64
  now0 : 0 ≤ P.now
  now1 : P.now < 18446744073709551616

theorem idCells_len (l : List (Int × Int)) : (idCells l).length = 2 * l.length := by
  induction l with
  | nil => rfl
  | cons x l ih => simp [idCells] at ih ⊢; omega

theorem idCells_get {l : List (Int × Int)} {i : Nat} {x : Int × Int} (h : l[i]? = some x) : takeN 2 ((idCells l).drop (i * 2)) = some [.int .i64 x.1, .int .u64 x.2] := by
  induction l generalizing i with
  | nil => simp at h
  | cons y l ih =>
    cases i with
    | zero => simp at h; subst h; rfl
    | succ i =>
      have : (i + 1) * 2 = i * 2 + 1 + 1 := by omega
      rw [this]
      simp only [idCells, List.flatMap_cons, List.cons_append, List.nil_append, List.drop_succ_cons]
      exact ih (by simpa using h)

theorem idCells_set {l : List (Int × Int)} {i : Nat} {x : Int × Int} (h : i < l.length) : setN (idCells l) (i * 2) [.int .i64 x.1, .int .u64 x.2] = some (idCells (l.set i x)) := by
  induction l generalizing i with
  | nil => simp at h
  | cons y l ih =>
    cases i with
    | zero => simp [idCells]
    | succ i =>
      have : (i + 1) * 2 = i * 2 + 1 + 1 := by omega
      rw [this]
      have := ih (i := i) (by simpa using h)
      simp only [idCells, List.flatMap_cons, List.cons_append, List.nil_append, setN_succ, List.set_cons_succ] at this ⊢
      rw [this]; rfl

end Go.Sh

namespace Go.Sh
open Go
open Go.Proofs

variable {prim : PrimF} {s : St} {Q : Value → St → Prop} {P : Lay} {ty : Nat → Ty}

def gid (ids : List (Int × Int)) (t : Int) : Int × Int := if 0 ≤ t ∧ t < ids.length then ids.getD t.toNat (0, 0) else (0, 0)

theorem Get_ok (hP : POnly prim) (hL : LayOk P) (hI : Inv P ty s) {m : Nat} (hm : m < P.mu) {ids : List (Int × Int)} (hids : s.heap.get (P.nm (25 + m)) = some (.cells (idCells ids) none false)) (hlen : ids.length = P.sl) {t : Int}
    (hq : ∀ s', Keep s s' → Q (.tuple #[idV (gid ids t).1 (gid ids t).2, .bool (decide (0 ≤ t) && decide (t < P.sl))]) s') :
    WC (tE prim) 97 [P.p 6, .int .i64 m, .int .i64 t] s Q := by
  refine WC_fn (fm97 prim (hP.no _)) rfl ?_
  have h6 := hI.const 6 (by decide)
  have h7 := hI.const 7 (by decide)
  rw [hL.r] at h6
  have l6 := hI.ltn 6 (.inl (by decide))
  have l7 := hI.ltn 7 (.inl (by decide))
  have lr := hI.ltn (25 + m) (.inr ⟨by omega, by omega⟩)
  simp [m97]
  refine there_in hP (n := P.mu) (cap := P.mu) (R := P.nm 7) (rows := P.row 7) (a := some ⟨P.nm (25 + m), 0, none⟩) (L := P.sl) (c := P.sl) ?_ ?_ ⟨by omega, by omega⟩ (by simpa using hL.rr m hm) ?_
  · simp (disch := omega) [h6]
  · simp (disch := omega) [h7]
  by_cases ht : 0 ≤ t ∧ t < P.sl
  · have hrr := hL.rr m hm
    have hx : ids[t.toNat]? = some (gid ids t) := by
      unfold gid
      rw [if_pos ⟨ht.1, by omega⟩]
      simp [List.getElem?_eq_getElem (show t.toNat < ids.length by omega)]
    have hc := idCells_get hx
    simp (disch := omega) [h6, h7, hids, ht, hrr, hc]
    simp [ht] at hq
    refine hq _ ⟨by first | omega | (simp only; omega) | (simp; done) | (simp; omega), fun n hn => ?_⟩
    simp (disch := omega)
  · have hb : (decide (0 ≤ t) && decide (t < (P.sl : Int))) = false := by
      rw [Bool.and_eq_false_iff]
      by_cases h : 0 ≤ t
      · right; simp; omega
      · left; simpa using h
    rw [hb] at hq ⊢
    simp (disch := omega)
    have : gid ids t = (0, 0) := by unfold gid; rw [if_neg (by omega)]
    rw [this] at hq
    refine hq _ ⟨by first | omega | (simp only; omega) | (simp; done) | (simp; omega), fun n hn => ?_⟩
    simp (disch := omega)

theorem at_ok (hP : POnly prim) (hL : LayOk P) (hI : Inv P ty s) {m : Nat} (hm : m < P.mu) {ids : List (Int × Int)} (hids : s.heap.get (P.nm (25 + m)) = some (.cells (idCells ids) none false)) (hlen : ids.length = P.sl) {t : Int}
    (hq : ∀ s', Keep s s' → Q (idV (gid ids t).1 (gid ids t).2) s') : WC (tE prim) 39 [P.p 0, .int .i64 m, .int .i64 t] s Q := by
  refine WC_fn (fm39 prim (hP.no _)) rfl ?_
  obtain ⟨c, hc0, hc1, hc2, h0⟩ := hL.n
  have hn := hI.const 0 (by decide)
  rw [h0] at hn
  have l0 := hI.ltn 0 (.inl (by decide))
  have lr := hI.ltn (25 + m) (.inr ⟨by omega, by omega⟩)
  simp (disch := omega) [m39, hn]
  have k1 : Keep s ⟨s.heap.set s.next (AObj.cells [Value.int IntKind.i64 0, Value.int IntKind.u64 0] none false), s.next + 1⟩ := ⟨by simp only; omega, fun n hn => by simp (disch := omega)⟩
  refine Get_ok hP hL (hI.keep k1) hm (by rw [k1.get _ lr]; exact hids) hlen ?_
  intro s2 k2
  have g2 := k2.get s.next (by simp only; omega)
  simp at g2
  have n2 := k2.next
  simp only at n2
  simp (disch := omega) [g2]
  refine hq _ ⟨by first | omega | (simp only; omega), fun n hn => ?_⟩
  have := (k1.trans k2).get n hn
  simp (disch := omega) [this]

theorem Set_ok (hP : POnly prim) (hL : LayOk P) (hI : Inv P ty s) {t a b : Int}
    (hq : ∀ r s', Inv P ty s' → Grow ty s ty s' → Q (.bool r) s') :
    WC (tE prim) 65 [P.p 6, .int .i64 0, .int .i64 t, idV a b] s Q := by
  refine WC_fn (fm65 prim (hP.no _)) rfl ?_
  have hmu := hL.mu1
  have h6 := hI.const 6 (by decide)
  have h7 := hI.const 7 (by decide)
  rw [hL.r] at h6
  have l6 := hI.ltn 6 (.inl (by decide))
  have l7 := hI.ltn 7 (.inl (by decide))
  have u25 : P.use 25 := .inr ⟨by omega, by omega⟩
  have lr := hI.ltn 25 u25
  obtain ⟨o, hr, hids⟩ := hI.fixed 25 u25
  obtain ⟨ids, hlen, rfl⟩ := hids
  have hrr := hL.rr 0 (by omega)
  simp only [Nat.add_zero] at hrr
  have ne := hI.ne (.inl (by decide : 6 < 22)) u25 (by decide)
  have ne' := hI.ne (.inl (by decide : 7 < 22)) u25 (by decide)
  by_cases ha : a = 0 <;> by_cases hb : b = 0 <;> by_cases h1 : 1 ≤ a <;> by_cases h2 : a ≤ 64 <;> by_cases h3 : 1 ≤ b <;> by_cases h4 : b ≤ 72057594037927935 <;> (try (exfalso; omega))
  all_goals
    simp [m65, eq54, ha, hb, h1, h2, h3, h4]
    refine there_in hP (m := 0) (n := P.mu) (cap := P.mu) (R := P.nm 7) (rows := P.row 7) (a := some ⟨P.nm 25, 0, none⟩) (L := P.sl) (c := P.sl) ?_ ?_ ⟨by omega, by omega⟩ (by simpa using hrr) ?_
    · simp (disch := omega) [h6]
    · simp (disch := omega) [h7]
    by_cases ht : 0 ≤ t ∧ t < P.sl
    · have hset := idCells_set (l := ids) (i := t.toNat) (x := (a, b)) (by omega)
      simp only [ha, hb] at hset
      simp (disch := omega) [h6, h7, hr, ht, hrr, hset]
      have hs := hI.set (s' := ⟨(s.heap.set s.next (.cells [.int .i64 a, .int .u64 b] none false)).set (P.nm 25) (.cells (idCells (ids.set t.toNat (a, b))) none false), s.next + 1 + 11⟩) (n0 := P.nm 25) (o := .cells (idCells (ids.set t.toNat (a, b))) none false)
          (by rw [hI.fx 25 u25]; rfl) (by rw [hI.fx 25 u25]; exact ⟨_, by simpa using hlen, rfl⟩) (by simp only; omega) (fun n hn hne => by simp (disch := omega)) (by simp)
      try simp only [ha, hb] at hs
      first
      | exact hq _ _ hs.1 hs.2
      | exact hq _ _ (hI.keep ⟨by first | omega | (simp only; omega), fun n hn => by simp (disch := omega)⟩) (.of_keep ⟨by first | omega | (simp only; omega), fun n hn => by simp (disch := omega)⟩)
    · have hb : (decide (0 ≤ t) && decide (t < (P.sl : Int))) = false := by
        rw [Bool.and_eq_false_iff]
        by_cases h : 0 ≤ t
        · right; simp; omega
        · left; simpa using h
      rw [hb]
      simp (disch := omega)
      exact hq _ _ (hI.keep ⟨by first | omega | (simp only; omega), fun n hn => by simp (disch := omega)⟩) (.of_keep ⟨by first | omega | (simp only; omega), fun n hn => by simp (disch := omega)⟩)

end Go.Sh

namespace Go.Sh
open Go
open Go.Proofs

variable {prim : PrimF} {s : St} {Q : Value → St → Prop} {P : Lay} {ty : Nat → Ty}

theorem class_ok (hP : POnly prim) {z : Int} (hq : ∀ c, 0 ≤ c → c ≤ 16 → Q (.int .i64 c) s) : WC (tE prim) 127 [.int .i64 z] s Q := by
  refine WC_fn (fm127 prim (hP.no _)) rfl ?_
  by_cases h1 : z < 1
  · simp [m127, h1]; exact hq 0 (by omega) (by omega)
  by_cases h2 : 16 < z
  · simp [m127, h1, h2]; exact hq 0 (by omega) (by omega)
  simp [m127, h1, h2]
  refine loop_rule (fun m ρ s' => s' = s ∧ ρ 0 = .int .i64 z ∧ ∃ c : Int, ρ 3 = .int .i64 c ∧ (c = 1 ∨ c = 2 ∨ c = 4 ∨ c = 8 ∨ c = 16) ∧ 16 - c ≤ m) ?_ 15 ?_
  · rintro m ρ s' ⟨rfl, h0, c, h3, hc, hm⟩
    by_cases hlt : c < z
    · have hw : shlI .i64 c 1 = c * 2 := w64 (by simp [IntKind.bits]; omega) (by simp [IntKind.bits]; omega)
      simp (disch := omega) [h0, h3, hlt, hw]
      exact ⟨m - 1, by omega, by omega, by omega⟩
    · simp (disch := omega) [h0, h3, hlt]
      exact hq c (by omega) (by omega)
  · simp (disch := omega)

theorem setN_map {f : Int → Value} {xs : List Int} {off : Nat} {y : Int} (h : off < xs.length) : setN (xs.map f) off [f y] = some ((xs.set off y).map f) := by
  rw [setN_one (by simpa using h), List.map_set]

theorem wrap_u16 (x : Int) : 0 ≤ IntKind.u16.wrap x ∧ IntKind.u16.wrap x < 65536 := by
  unfold IntKind.wrap
  simp [IntKind.bits, IntKind.signed]
  omega

theorem take_ok (hP : POnly prim) (hL : LayOk P) (hI : Inv P ty s) {b : Int} (hb0 : 0 ≤ b) (hb : b < P.nb) (hq : ∀ c s', Inv P ty s' → Grow ty s ty s' → s'.heap.get (P.nm 5) = s.heap.get (P.nm 5) → Q (.int .i64 c) s') :
    WC (tE prim) 129 [P.p 2, .int .i64 b] s Q := by
  refine WC_fn (fm129 prim (hP.no _)) rfl ?_
  have h2 := hI.const 2 (by decide)
  rw [hL.a] at h2
  have l2 := hI.ltn 2 (.inl (by decide))
  have l3 := hI.ltn 3 (.inl (by decide))
  have l4 := hI.ltn 4 (.inl (by decide))
  have hf3 := hI.fx 3 (.inl (by decide))
  have hf4 := hI.fx 4 (.inl (by decide))
  obtain ⟨o3, h3, cs, hlen3, rfl⟩ := hI.fixed 3 (.inl (by decide))
  obtain ⟨o4, h4, ts, hlen4, hts, rfl⟩ := hI.fixed 4 (.inl (by decide))
  have ne24 := hI.ne (.inl (by decide : 2 < 22)) (.inl (by decide : 4 < 22)) (by decide)
  have ne54 := hI.ne (.inl (by decide : 5 < 22)) (.inl (by decide : 4 < 22)) (by decide)
  have ne34 := hI.ne (.inl (by decide : 3 < 22)) (.inl (by decide : 4 < 22)) (by decide)
  have hbt : b.toNat < ts.length := by omega
  have hx := hts _ (List.getElem_mem hbt)
  simp (disch := omega) [m129]
  refine loop_rule (fun m ρ s' => s' = s ∧ ρ 0 = P.p 2 ∧ ρ 1 = .int .i64 b ∧ ∃ k : Int, ρ 5 = .int .i64 k ∧ 0 ≤ k ∧ k ≤ 16 ∧ 16 - k ≤ m) ?_ 16 ?_
  · rintro m ρ s' ⟨rfl, h0, h1, k, h5, hk0, hk, hm⟩
    generalize hv : andI .u16 (shrI .u16 ts[b.toNat] k) 1 = v
    by_cases hone : v = 1
    · have hk16 : k < 16 := by
        rcases Int.lt_or_le k 16 with h | h
        · exact h
        · exfalso
          have : k = 16 := by omega
          subst this
          have : shrI .u16 ts[b.toNat] 16 = 0 := by
            unfold shrI
            rw [Int.fdiv_eq_ediv_of_nonneg _ (by decide)]
            exact Int.ediv_eq_zero_of_lt hx.1 (by simpa [IntKind.bits] using hx.2)
          rw [this] at hv
          rw [← hv] at hone
          revert hone; decide
      have hw : IntKind.i64.wrap (k + 1) = k + 1 := w64 (by omega) (by omega)
      simp (disch := omega) [h0, h1, h5, h2, h4, hv, hone, hw]
      exact ⟨m - 1, by omega, by omega, by omega, by omega⟩
    · have hset := setN_map (f := .int .u16) (xs := ts) (off := b.toNat) (y := orI .u16 ts[b.toNat] (shlI .u16 1 k)) hbt
      simp (disch := omega) [h0, h1, h5, h2, h4, h3, hv, hone, hset]
      have hs := hI.set (s' := ⟨s'.heap.set (P.nm 4) (.cells ((ts.set b.toNat (orI .u16 ts[b.toNat] (shlI .u16 1 k))).map (.int .u16)) none false), s'.next + 12⟩) (n0 := P.nm 4)
          (o := .cells ((ts.set b.toNat (orI .u16 ts[b.toNat] (shlI .u16 1 k))).map (.int .u16)) none false)
          (by rw [hf4]; rfl) (by rw [hf4]; exact ⟨_, by simpa using hlen4, fun x hx => (List.mem_or_eq_of_mem_set hx).elim (hts x) (fun e => e ▸ wrap_u16 _), rfl⟩) (by simp only; omega) (fun n hn hne => by simp (disch := omega)) (by simp)
      simp only [List.map_set] at hs
      exact hq _ _ hs.1 hs.2 (by simp (disch := omega))
  · simp (disch := omega)

theorem alloc_ok (hP : POnly prim) (hL : LayOk P) (hI : Inv P ty s) {z : Int} (hq : ∀ c e s', Inv P ty s' → Grow ty s ty s' → s'.heap.get (P.nm 5) = s.heap.get (P.nm 5) → Q (.tuple #[.int .i64 c, .int .i64 e]) s') :
    WC (tE prim) 106 [P.p 2, .int .i64 z] s Q := by
  refine WC_fn (fm106 prim (hP.no _)) rfl ?_
  have h2 := hI.const 2 (by decide)
  rw [hL.a] at h2
  simp (disch := omega) [m106]
  refine class_ok hP fun c hc0 hc16 => ?_
  by_cases hcz : c = 0
  · simp (disch := omega) [hcz]
    exact hq _ _ _ hI .refl rfl
  have hnb := hL.nb1
  have hcz' : ¬ (0 : Int) = c := fun h => hcz h.symm
  simp (disch := omega) [hcz, h2]
  refine loop_rule (fun m ρ s' => Inv P ty s' ∧ Grow ty s ty s' ∧ s'.heap.get (P.nm 5) = s.heap.get (P.nm 5) ∧ ρ 0 = P.p 2 ∧ ρ 6 = .int .i64 c ∧ ρ 17 = .slice (some ⟨P.nm 3, 0, none⟩) P.nb P.nb ∧ ρ 18 = .int .i64 P.nb ∧
    ∃ i f : Int, ρ 19 = .int .i64 i ∧ ρ 7 = .int .i64 f ∧ 0 ≤ i ∧ i ≤ P.nb ∧ P.nb - i ≤ m ∧ f < P.nb) ?_ P.nb ?_
  · rintro m ρ s' ⟨hI', hG, hk5, h0, h6, h17, h18, i, f, h19, h7, hi0, hi, hm, hf⟩
    have h2 := hI'.const 2 (by decide)
    rw [hL.a] at h2
    have l2 := hI'.ltn 2 (.inl (by decide))
    have l3 := hI'.ltn 3 (.inl (by decide))
    have l4 := hI'.ltn 4 (.inl (by decide))
    have hf3 := hI'.fx 3 (.inl (by decide))
    obtain ⟨o3, h3, cs, hlen3, rfl⟩ := hI'.fixed 3 (.inl (by decide))
    obtain ⟨o4, h4, ts, hlen4, hts, rfl⟩ := hI'.fixed 4 (.inl (by decide))
    by_cases hlt : i < P.nb
    · have hw : IntKind.i64.wrap (i + 1) = i + 1 := w64 (by omega) (by omega)
      have hbt : i.toNat < ts.length := by omega
      by_cases hcl : cs[i.toNat] = c
      · simp (disch := omega) [h0, h6, h17, h18, h19, h7, hlt, h2, h3, h4, hcl]
        refine full_ok hP (by omega) (by omega) fun r => ?_
        have k1 : Keep s' ⟨s'.heap, s'.next + 15⟩ := ⟨by simp only; omega, fun n hn => rfl⟩
        by_cases hr : ts[i.toNat] = r
        · simp (disch := omega) [h0, h6, h17, h18, h19, h7, h2, h3, h4, hcl, hr, hcz, hw]
          exact ⟨m - 1, by omega, hI'.keep k1, hG.trans (.of_keep k1), hk5, by omega, by omega, by omega, by omega⟩
        · simp (disch := omega) [h0, h6, h17, h18, h19, h7, h2, h3, h4, hcl, hr]
          refine take_ok hP hL (hI'.keep k1) hi0 hlt fun c' s2 hI2 hG2 hk2 => ?_
          simp (disch := omega)
          exact hq _ _ _ hI2 ((hG.trans (.of_keep k1)).trans hG2) (hk2.trans hk5)
      · have k1 : Keep s' ⟨s'.heap, s'.next + 15⟩ := ⟨by simp only; omega, fun n hn => rfl⟩
        by_cases hz : cs[i.toNat] = 0
        · by_cases hf0 : f < 0
          · simp (disch := omega) [h0, h6, h17, h18, h19, h7, hlt, h2, h3, h4, hcl, hz, hf0, hw, hcz']
            exact ⟨m - 1, by omega, hI'.keep k1, hG.trans (.of_keep k1), hk5, by omega, by omega, by omega⟩
          · simp (disch := omega) [h0, h6, h17, h18, h19, h7, hlt, h2, h3, h4, hcl, hz, hf0, hw, hcz']
            exact ⟨m - 1, by omega, hI'.keep k1, hG.trans (.of_keep k1), hk5, by omega, by omega, by omega, by omega⟩
        · simp (disch := omega) [h0, h6, h17, h18, h19, h7, hlt, h2, h3, h4, hcl, hz, hw]
          exact ⟨m - 1, by omega, hI'.keep k1, hG.trans (.of_keep k1), hk5, by omega, by omega, by omega, by omega⟩
    · by_cases hf0 : f < 0
      · simp (disch := omega) [h0, h6, h17, h18, h19, h7, hlt, hf0]
        exact hq _ _ _ hI' hG hk5
      · have hset := setN_map (f := .int .i64) (xs := cs) (off := f.toNat) (y := c) (by omega)
        simp (disch := omega) [h0, h6, h17, h18, h19, h7, hlt, hf0, h2, h3, hset]
        have hs := hI'.set (s' := ⟨s'.heap.set (P.nm 3) (.cells ((cs.set f.toNat c).map (.int .i64)) none false), s'.next⟩) (n0 := P.nm 3)
          (o := .cells ((cs.set f.toNat c).map (.int .i64)) none false)
          (by rw [hf3]; rfl) (by rw [hf3]; exact ⟨_, by simpa using hlen3, rfl⟩) (by simp only; omega) (fun n hn hne => by simp (disch := omega)) (by simp)
        simp only [List.map_set] at hs
        refine take_ok hP hL hs.1 (by omega) hf fun c' s2 hI2 hG2 hk2 => ?_
        simp (disch := omega)
        exact hq _ _ _ hI2 ((hG.trans hs.2).trans hG2) (hk2.trans (by have ne53 := hI'.ne (.inl (by decide : 5 < 22)) (.inl (by decide : 3 < 22)) (by decide); simp (disch := omega) [hk5]))
  · simp (disch := omega)
    exact ⟨hI, .refl, by omega⟩

end Go.Sh

namespace Go.Sh
open Go
open Go.Proofs

variable {prim : PrimF} {s : St} {Q : Value → St → Prop} {P : Lay} {ty : Nat → Ty} {ρ : Rho}

/-! ### the map -/
def isKey (x : Int) (e : MapEntry) : Bool := match e.key with
  | .int _ k => decide (x = k)
  | _ => false

/-- What is found under a number. -/
def lkE (es : List MapEntry) (x : Int) : Value := match es.find? (isKey x) with
  | some e => e.val
  | none => .pointer none

noncomputable def lkG (prim : PrimF) (m k : Value) (s : St) : Option (Value × St) := match mapOf s m with
  | some es => cond (keyOk (tE prim) 6 22 k) (match findI (tE prim) s 22 k es 0 with
    | some (some i) => match es[i]? with
      | some e => some (e.val, s)
      | none => none
    | some none => some (.pointer none, s)
    | none => none) none
  | none => none

theorem run_lkp {a b : Nat} {nm : Option Nat} : opRun (tE prim) (evO ρ) (gop (.lookup 192 (.tmp a) (.tmp b) false)) nm s = lkG prim (ρ a) (ρ b) s := by
  have h192 : (tE prim).ty.get 192 = some ti192 := rfl
  have h262 : (tE prim).ty.get 262 = some ti262 := rfl
  have hu : ti192.und = .map 22 262 := rfl
  have hz : zeroOf ti262 = some (.pointer none) := rfl
  unfold opRun lkG
  simp only [gop, cls, aread, evO, h192, hu, h262, hz]
  cases mapOf s (ρ a) with
  | none => rfl
  | some es =>
    simp only
    cases keyOk (tE prim) 6 22 (ρ b) with
    | false => rfl
    | true =>
      simp only [cond_true]
      cases findI (tE prim) s 22 (ρ b) es 0 with
      | none => rfl
      | some r => cases r with
        | none => rfl
        | some i => simp only; cases es[i]? <;> rfl

theorem findI_u {x : Int} : ∀ {es : List MapEntry} {i : Nat}, (∀ e ∈ es, ∃ k, e.key = .int .u64 k) → findI (tE prim) s 22 (.int .u64 x) es i = some ((es.findIdx? (isKey x)).map (· + i))
  | [], i, _ => rfl
  | e :: es, i, h => by
    obtain ⟨k, hk⟩ := h e (by simp)
    have h22 : (tE prim).ty.get 22 = some ti22 := rfl
    unfold findI
    rw [hk, aeq_int h22 rfl]
    by_cases hx : x = k
    · simp [hx, isKey, hk, List.findIdx?_cons]
    · simp only [hx, decide_false]
      rw [findI_u (fun e he => h e (by simp [he]))]
      simp [List.findIdx?_cons, isKey, hk, hx, Function.comp_def, Nat.add_assoc, Nat.add_comm 1 i]

theorem lkG_ok {n : Nat} {es : List MapEntry} {c : Nat} {x : Int} (hg : s.heap.get n = some (.map es c)) (h : ∀ e ∈ es, ∃ k, e.key = .int .u64 k) : lkG prim (.map (some n)) (.int .u64 x) s = some (lkE es x, s) := by
  have hk : keyOk (tE prim) 6 22 (.int .u64 x) = true := rfl
  unfold lkG
  simp only [mapOf, hg, hk, cond_true, findI_u h]
  unfold lkE
  cases hf : es.findIdx? (isKey x) with
  | none =>
    have := List.findIdx?_eq_none_iff.1 hf
    have : es.find? (isKey x) = none := by rw [List.find?_eq_none]; intro e he; simp [this e he]
    rw [this]; rfl
  | some i =>
    have h1 : i < es.length := by
      have := List.findIdx?_eq_some_iff_getElem.1 hf
      exact this.1
    have : es.find? (isKey x) = some es[i] := by
      obtain ⟨h2, h3, h4⟩ := List.findIdx?_eq_some_iff_getElem.1 hf
      rw [List.find?_eq_some_iff_getElem]
      exact ⟨h3, i, h2, rfl, fun j hj => by have := h4 j hj; simpa using this⟩
    rw [this]
    simp [h1]

theorem eq262n : eqv0 (tE prim) s 262 (.pointer none) (.pointer none) = some true := rfl
theorem eq262s {a : Addr} : eqv0 (tE prim) s 262 (.pointer (some a)) (.pointer none) = some false := rfl

/-- The objects' map. -/
structure MapAt (P : Lay) (ty : Nat → Ty) (s : St) (es : List MapEntry) (c : Nat) : Prop where
  get : s.heap.get (P.nm 5) = some (.map es c)
  len : es.length ≤ P.ob
  ent : ∀ e ∈ es, ∃ k t, e.key = .int .u64 k ∧ e.val = .pointer (some ⟨t, 0, none⟩) ∧ ty t = .thing

theorem MapAt.key {es : List MapEntry} {c : Nat} (h : MapAt P ty s es c) : ∀ e ∈ es, ∃ k, e.key = .int .u64 k := fun e he => let ⟨k, _, h1, _⟩ := h.ent e he; ⟨k, h1⟩

theorem MapAt.lk {es : List MapEntry} {c : Nat} (h : MapAt P ty s es c) (x : Int) : lkE es x = .pointer none ∨ ∃ t, lkE es x = .pointer (some ⟨t, 0, none⟩) ∧ ty t = .thing := by
  unfold lkE
  cases hf : es.find? (isKey x) with
  | none => exact .inl rfl
  | some e =>
    obtain ⟨k, t, _, h2, h3⟩ := h.ent e (List.mem_of_find?_eq_some hf)
    exact .inr ⟨t, h2, h3⟩

theorem Inv.map (hI : Inv P ty s) : ∃ es c, MapAt P ty s es c := by
  obtain ⟨o, h, es, c, rfl, h2, h3⟩ := hI.fixed 5 (.inl (by decide))
  exact ⟨es, c, h, h2, h3⟩

/-- An object stands under a serial. -/
structure ThingAt (P : Lay) (ty : Nat → Ty) (s : St) (es : List MapEntry) (c : Nat) (x : Int) (t r k v l : Nat) : Prop where
  map : MapAt P ty s es c
  lk : lkE es x = .pointer (some ⟨t, 0, none⟩)
  lt : t < s.next
  get : ∃ cell i, s.heap.get t = some (.cells [.int .i64 cell, .slice (some ⟨r, 0, none⟩) k k, .slice (some ⟨v, 0, none⟩) l l, .int .i64 i] none false)
  tr : ty r = .refs k
  tv : ty v = .vals l
  tt : ty t = .thing
  k7 : k ≤ 7
  l7 : l ≤ 7

theorem Inv.thing (hI : Inv P ty s) {es : List MapEntry} {c : Nat} (h : MapAt P ty s es c) {x : Int} {t : Nat} (hl : lkE es x = .pointer (some ⟨t, 0, none⟩)) (ht : ty t = .thing) : ∃ r k v l, ThingAt P ty s es c x t r k v l := by
  obtain ⟨o, h1, h2⟩ := hI.obj t (by rw [ht]; rfl)
  rw [ht] at h2
  obtain ⟨cell, r, k, v, l, i, rfl, h3, h4, h5, h6⟩ := h2
  exact ⟨r, k, v, l, h, hl, hI.lt t (by rw [ht]; rfl), ⟨cell, i, h1⟩, h3, h4, ht, h5, h6⟩

theorem Inv.refs (hI : Inv P ty s) {r k : Nat} (h : ty r = .refs k) : ∃ ids : List (Int × Int), ids.length = k ∧ r < s.next ∧ s.heap.get r = some (.cells (idCells ids) none false) := by
  obtain ⟨o, h1, h2⟩ := hI.obj r (by rw [h]; rfl)
  rw [h] at h2
  obtain ⟨ids, h3, rfl⟩ := h2
  exact ⟨ids, h3, hI.lt r (by rw [h]; rfl), h1⟩

theorem Inv.vals (hI : Inv P ty s) {r k : Nat} (h : ty r = .vals k) : ∃ xs : List Int, xs.length = k ∧ r < s.next ∧ s.heap.get r = some (.cells (xs.map (.int .u64)) none false) := by
  obtain ⟨o, h1, h2⟩ := hI.obj r (by rw [h]; rfl)
  rw [h] at h2
  obtain ⟨ids, h3, rfl⟩ := h2
  exact ⟨ids, h3, hI.lt r (by rw [h]; rfl), h1⟩

attribute [simp] run_lkp eq262n eq262s eq54

theorem Ref_ok (hP : POnly prim) (hI : Inv P ty s) {x f : Int}
    (hq : ∀ a b e s', Keep s s' → (e = 0 → ∃ es c t r k v l, ThingAt P ty s es c x t r k v l ∧ 0 ≤ f ∧ f < k) → Q (.tuple #[idV a b, .int .i64 e]) s') :
    WC (tE prim) 114 [P.p 1, .int .u64 x, .int .i64 f] s Q := by
  refine WC_fn (fm114 prim (hP.no _)) rfl ?_
  obtain ⟨o1, h1, last, rfl⟩ := hI.fixed 1 (.inl (by decide))
  have l1 := hI.ltn 1 (.inl (by decide))
  have l5 := hI.ltn 5 (.inl (by decide))
  obtain ⟨es, c, hm⟩ := hI.map
  have h5 := hm.get
  have hlk : ∀ s' : St, s'.heap.get (P.nm 5) = some (.map es c) → lkG prim (.map (some (P.nm 5))) (.int .u64 x) s' = some (lkE es x, s') := fun s' h => lkG_ok h hm.key
  rcases hm.lk x with hn | ⟨t, ht, htt⟩
  · simp (disch := first | omega | (simp (disch := omega) [h5]; done)) [m114, h1, hlk, hn]
    exact hq _ _ _ _ ⟨by simp only; omega, fun n hn => by simp (disch := omega)⟩ (fun h => by cases h)
  · obtain ⟨r, k, v, l, hth⟩ := hI.thing hm ht htt
    obtain ⟨cell, i, hg⟩ := hth.get
    have lt := hth.lt
    obtain ⟨ids, hlen, lr, hr⟩ := hI.refs hth.tr
    simp (disch := first | omega | (simp (disch := omega) [h5]; done)) [m114, h1, hlk, ht, hg]
    refine in_ok hP ?_
    by_cases hf : 0 ≤ f ∧ f < k
    · have hx : ids[f.toNat]? = some (gid ids f) := by
        unfold gid
        rw [if_pos ⟨hf.1, by omega⟩]
        simp [List.getElem?_eq_getElem (show f.toNat < ids.length by omega)]
      have hc := idCells_get hx
      simp (disch := omega) [hf, hg, hr, hc]
      exact hq _ _ _ _ ⟨by simp only; omega, fun n hn => by simp (disch := omega)⟩ (fun h => ⟨_, _, _, _, _, _, _, hth, hf.1, hf.2⟩)
    · have hb : (decide (0 ≤ f) && decide (f < (k : Int))) = false := by
        rw [Bool.and_eq_false_iff]
        by_cases h : 0 ≤ f
        · right; simp; omega
        · left; simpa using h
      rw [hb]
      simp (disch := omega)
      exact hq _ _ _ _ ⟨by simp only; omega, fun n hn => by simp (disch := omega)⟩ (fun h => by cases h)

theorem Val_ok (hP : POnly prim) (hI : Inv P ty s) {x f : Int}
    (hq : ∀ a e, (e = 0 → ∃ es c t r k v l, ThingAt P ty s es c x t r k v l ∧ 0 ≤ f ∧ f < l) → Q (.tuple #[.int .u64 a, .int .i64 e]) s) :
    WC (tE prim) 115 [P.p 1, .int .u64 x, .int .i64 f] s Q := by
  refine WC_fn (fm115 prim (hP.no _)) rfl ?_
  obtain ⟨o1, h1, last, rfl⟩ := hI.fixed 1 (.inl (by decide))
  obtain ⟨es, c, hm⟩ := hI.map
  have h5 := hm.get
  have hlk : lkG prim (.map (some (P.nm 5))) (.int .u64 x) s = some (lkE es x, s) := lkG_ok h5 hm.key
  rcases hm.lk x with hn | ⟨t, ht, htt⟩
  · simp (disch := omega) [m115, h1, hlk, hn]
    exact hq _ _ (fun h => by cases h)
  · obtain ⟨r, k, v, l, hth⟩ := hI.thing hm ht htt
    obtain ⟨cell, i, hg⟩ := hth.get
    obtain ⟨ids, hlen, lr, hr⟩ := hI.vals hth.tv
    simp (disch := omega) [m115, h1, hlk, ht, hg]
    refine in_ok hP ?_
    by_cases hf : 0 ≤ f ∧ f < l
    · simp (disch := omega) [hf, hg, hr]
      exact hq _ _ (fun h => ⟨_, _, _, _, _, _, _, hth, hf.1, hf.2⟩)
    · have hb : (decide (0 ≤ f) && decide (f < (l : Int))) = false := by
        rw [Bool.and_eq_false_iff]
        by_cases h : 0 ≤ f
        · right; simp; omega
        · left; simpa using h
      rw [hb]
      simp (disch := omega)
      exact hq _ _ (fun h => by cases h)

theorem right_ok (hP : POnly prim) {a b : Int} (hq : ∀ r s', Keep s s' → Q (.bool r) s') : WC (tE prim) 135 [idV a b] s Q := by
  refine WC_fn (fm135 prim (hP.no _)) rfl ?_
  by_cases ha : a = 0 <;> by_cases hb : b = 0 <;> by_cases h1 : 1 ≤ a <;> by_cases h2 : a ≤ 64 <;> by_cases h3 : 1 ≤ b <;> by_cases h4 : b ≤ 72057594037927935 <;> (try (exfalso; omega))
  all_goals
    simp [m135, ha, hb, h1, h2, h3, h4]
    exact hq _ _ ⟨by simp only; omega, fun n hn => by simp (disch := omega)⟩

theorem ThingAt.keep {es : List MapEntry} {c : Nat} {x : Int} {t r k v l : Nat} {s' : St} (h : ThingAt P ty s es c x t r k v l) (hI : Inv P ty s) (hk : Keep s s') : ThingAt P ty s' es c x t r k v l where
  map := ⟨by rw [hk.get _ (hI.ltn 5 (.inl (by decide)))]; exact h.map.get, h.map.len, h.map.ent⟩
  lk := h.lk
  lt := Nat.lt_of_lt_of_le h.lt hk.next
  get := by rw [hk.get _ h.lt]; exact h.get
  tr := h.tr
  tv := h.tv
  tt := h.tt
  k7 := h.k7
  l7 := h.l7

theorem SetVal_ok (hP : POnly prim) (hI : Inv P ty s) {x f y : Int} (hq : ∀ e s', Inv P ty s' → Grow ty s ty s' → Q (.int .i64 e) s') :
    WC (tE prim) 116 [P.p 1, .int .u64 x, .int .i64 f, .int .u64 y] s Q := by
  refine WC_fn (fm116 prim (hP.no _)) rfl ?_
  simp (disch := omega) [m116]
  refine Val_ok hP hI fun a e he => ?_
  by_cases h0 : e = 0
  · obtain ⟨es, c, t, r, k, v, l, hth, hf0, hf⟩ := he h0
    obtain ⟨o1, h1, last, rfl⟩ := hI.fixed 1 (.inl (by decide))
    have hlk : lkG prim (.map (some (P.nm 5))) (.int .u64 x) s = some (lkE es x, s) := lkG_ok hth.map.get hth.map.key
    have ht := hth.lk
    obtain ⟨cell, i, hg⟩ := hth.get
    obtain ⟨xs, hlen, lr, hr⟩ := hI.vals hth.tv
    have hset := setN_map (f := .int .u64) (xs := xs) (off := f.toNat) (y := y) (by omega)
    simp (disch := omega) [h0, h1, hlk, ht, hg, hr, hset]
    have hs := hI.set (s' := ⟨s.heap.set v (.cells ((xs.set f.toNat y).map (.int .u64)) none false), s.next⟩) (n0 := v)
          (o := .cells ((xs.set f.toNat y).map (.int .u64)) none false)
          (by rw [hth.tv]; rfl) (by rw [hth.tv]; exact ⟨_, by simpa using hlen, rfl⟩) (by simp only; omega) (fun n hn hne => by simp (disch := omega)) (by simp)
    simp only [List.map_set] at hs
    exact hq _ _ hs.1 hs.2
  · simp (disch := omega) [h0]
    exact hq _ _ hI .refl

theorem SetRef_ok (hP : POnly prim) (hI : Inv P ty s) {x f a b : Int} (hq : ∀ a' b' e s', Inv P ty s' → Grow ty s ty s' → Q (.tuple #[idV a' b', .int .i64 e]) s') :
    WC (tE prim) 117 [P.p 1, .int .u64 x, .int .i64 f, idV a b] s Q := by
  refine WC_fn (fm117 prim (hP.no _)) rfl ?_
  have l1 := hI.ltn 1 (.inl (by decide))
  have l5 := hI.ltn 5 (.inl (by decide))
  simp (disch := omega) [m117]
  refine right_ok hP fun ok s2 k2 => ?_
  have n2 := k2.next
  simp only at n2
  have g7 := k2.get s.next (by simp only; omega)
  have g8 := k2.get (s.next + 1) (by simp only; omega)
  simp (disch := omega) at g7 g8
  have k1 : Keep s s2 := ⟨by omega, fun n hn => by rw [k2.get n (by simp only; omega)]; simp (disch := omega)⟩
  have hI2 := hI.keep k1
  cases ok with
  | false =>
    simp (disch := omega) [g7, g8]
    exact hq _ _ _ _ (hI.keep ⟨by simp only; omega, fun n hn => by simp (disch := omega) [k1.get n hn]⟩) (.of_keep ⟨by simp only; omega, fun n hn => by simp (disch := omega) [k1.get n hn]⟩)
  | true =>
    simp (disch := omega) [g7, g8]
    refine Ref_ok hP hI2 fun a' b' e s3 k3 he => ?_
    have n3 := k3.next
    have g7' := (k3.get s.next (by omega)).trans g7
    have g8' := (k3.get (s.next + 1) (by omega)).trans g8
    have k13 := k1.trans k3
    by_cases h0 : e = 0
    · obtain ⟨es, c, t, r, k, v, l, hth2, hf0, hf⟩ := he h0
      have hth := hth2.keep hI2 k3
      have hI3 := hI2.keep k3
      obtain ⟨o1, h1, last, rfl⟩ := hI3.fixed 1 (.inl (by decide))
      have hlk : ∀ s' : St, s'.heap.get (P.nm 5) = some (.map es c) → lkG prim (.map (some (P.nm 5))) (.int .u64 x) s' = some (lkE es x, s') := fun s' h => lkG_ok h hth.map.key
      have ht := hth.lk
      have h5 := hth.map.get
      have lt := hth2.lt
      obtain ⟨cell, i, hg⟩ := hth.get
      obtain ⟨ids, hlen, lr, hr⟩ := hI3.refs hth.tr
      have lr2 := (hI2.refs hth.tr).choose_spec.2.1
      have hset := idCells_set (l := ids) (i := f.toNat) (x := (a, b)) (by omega)
      have lr0 := (hI.refs hth.tr).choose_spec.2.1
      have lt0 := hI.lt t (by rw [hth.tt]; rfl)
      simp (disch := first | omega | (simp (disch := omega) [h5]; done)) [h0, h1, hlk, ht, hg, hr, hset, g7', g8', h5]
      refine (fun s' (h : Inv P ty s' ∧ Grow ty s ty s') => hq a' b' 0 s' h.1 h.2) _ (hI.set (n0 := r) (o := .cells (idCells (ids.set f.toNat (a, b))) none false)
          (by rw [hth.tr]; rfl) (by rw [hth.tr]; exact ⟨_, by simpa using hlen, rfl⟩) (by simp only; omega) (fun n hn hne => by simp (disch := omega) [k13.get n hn]) (by simp (disch := omega)))
    · simp (disch := omega) [h0, g7', g8']
      exact hq _ _ _ _ (hI.keep ⟨by simp only; omega, fun n hn => by simp (disch := omega) [k13.get n hn]⟩) (.of_keep ⟨by simp only; omega, fun n hn => by simp (disch := omega) [k13.get n hn]⟩)

end Go.Sh
