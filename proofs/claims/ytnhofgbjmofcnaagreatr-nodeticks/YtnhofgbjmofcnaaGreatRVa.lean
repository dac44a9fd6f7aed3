/-
  NodeTicks: what is done is made of any numbers. NodeTicks: slices that grow; what is shown of a node. NodeTicks: what a node holds, as data. NodeTicks: the tables are shown.
-/
import Derived.Test.YtnhofgbjmofcnaaGreatRUa

namespace Go.Sh
open Go
open Go.Proofs

variable {prim : PrimF} {s : St} {Q : Value → St → Prop} {P : Lay} {ty : Nat → Ty} {ρ : Rho}

/-- A config's row. -/
abbrev cfgL (c : Nat → Int) : List Value := [.int .i64 (c 0), .int .i64 (c 1), .int .i64 (c 2), .int .i64 (c 3), .int .i64 (c 4), .int .i64 (c 5), .int .i64 (c 6), .int .i64 (c 7), .int .i64 (c 8),
    .int .i64 (c 9), .int .i64 (c 10), .int .u64 (c 11), .int .u64 (c 12), .int .u64 (c 13), .int .u64 (c 14), .int .u64 (c 15), .int .u64 (c 16), .int .i64 (c 17), .int .i64 (c 18), .int .i64 (c 19), .int .u64 (c 20), .int .u64 (c 21)]
abbrev cfgV (c : Nat → Int) : Value := .agg #[.int .i64 (c 0), .int .i64 (c 1), .int .i64 (c 2), .int .i64 (c 3), .int .i64 (c 4), .int .i64 (c 5), .int .i64 (c 6), .int .i64 (c 7), .int .i64 (c 8),
    .int .i64 (c 9), .int .i64 (c 10), .int .u64 (c 11), .int .u64 (c 12), .int .u64 (c 13), .int .u64 (c 14), .int .u64 (c 15), .int .u64 (c 16), .int .i64 (c 17), .int .i64 (c 18), .int .i64 (c 19), .int .u64 (c 20), .int .u64 (c 21)]

theorem op_ok (hP : POnly prim) {k a b f r v t val num : Int} {c : Nat → Int} (h0 : 0 < c 0) (h0' : c 0 < 1000) (h2 : 0 < c 2) (h2' : c 2 < 1000)
    (hq : ∀ k a b f r v t val num s', Keep s s' → Q (opV k a b f r v t val num) s') :
    WC (tE prim) 13 [opV k a b f r v t val num, cfgV c] s Q := by
  refine WC_fn (fm13 prim (hP.no _)) rfl ?_
  by_cases hv : v.tmod 11 = 10
  · simp (disch := omega) [m13, hv]
    exact hq _ _ _ _ _ _ _ _ _ _ ⟨by first | omega | (simp only; omega), fun n hn => by simp (disch := omega)⟩
  simp (disch := omega) [m13, hv]
  refine pick_ok hP (by omega) (by omega) fun r1 _ _ => ?_
  simp (disch := omega)
  refine pick_ok hP (by omega) (by omega) fun r2 _ _ => ?_
  simp (disch := omega)
  have hw2 : IntKind.i64.wrap (c 2 + 1) = c 2 + 1 := w64 (by omega) (by omega)
  simp only [hw2]
  refine pick_ok hP (by omega) (by omega) fun r3 _ _ => ?_
  have e3 : IntKind.i64.wrap (r3 - 1) = r3 - 1 := w64 (by omega) (by omega)
  have e1 : IntKind.i64.wrap (1 + r1) = 1 + r1 := w64 (by omega) (by omega)
  by_cases hn : r3 - 1 < 0
  · by_cases h5 : 1 + r1 = 5
    · have h5' := eq_true h5
      simp (disch := omega) [e3, e1, hn, h5']
      refine pick_ok hP (by omega) (by omega) fun r4 _ _ => ?_
      simp (disch := omega)
      refine pick_ok hP (by omega) (by omega) fun r5 _ _ => ?_
      simp (disch := omega)
      refine pick_ok hP (by omega) (by omega) fun r6 _ _ => ?_
      simp (disch := omega)
      refine pick_ok hP (by omega) (by omega) fun r7 _ _ => ?_
      simp (disch := omega)
      exact hq _ _ _ _ _ _ _ _ _ _ ⟨by first | omega | (simp only; omega), fun n hn => by simp (disch := omega)⟩
    have h5' := eq_false h5
    by_cases h11 : 1 + r1 = 11
    · have h11' := eq_true h11
      simp (disch := omega) [e3, e1, hn, h5', h11']
      refine pick_ok hP (by omega) (by omega) fun r4 _ _ => ?_
      simp (disch := omega)
      refine pick_ok hP (by omega) (by omega) fun r5 _ _ => ?_
      simp (disch := omega)
      refine pick_ok hP (by omega) (by omega) fun r6 _ _ => ?_
      simp (disch := omega)
      refine pick_ok hP (by omega) (by omega) fun r7 _ _ => ?_
      simp (disch := omega)
      exact hq _ _ _ _ _ _ _ _ _ _ ⟨by first | omega | (simp only; omega), fun n hn => by simp (disch := omega)⟩
    have h11' := eq_false h11
    simp (disch := omega) [e3, e1, hn, h5', h11']
    refine pick_ok hP (by omega) (by omega) fun r4 _ _ => ?_
    simp (disch := omega)
    refine pick_ok hP (by omega) (by omega) fun r5 _ _ => ?_
    simp (disch := omega)
    refine pick_ok hP (by omega) (by omega) fun r6 _ _ => ?_
    simp (disch := omega)
    refine pick_ok hP (by omega) (by omega) fun r7 _ _ => ?_
    simp (disch := omega)
    exact hq _ _ _ _ _ _ _ _ _ _ ⟨by first | omega | (simp only; omega), fun n hn => by simp (disch := omega)⟩
  · simp (disch := omega) [e3, e1, hn]
    refine pick_ok hP (by omega) (by omega) fun r4 _ _ => ?_
    simp (disch := omega)
    refine pick_ok hP (by omega) (by omega) fun r5 _ _ => ?_
    simp (disch := omega)
    refine pick_ok hP (by omega) (by omega) fun r6 _ _ => ?_
    simp (disch := omega)
    refine pick_ok hP (by omega) (by omega) fun r7 _ _ => ?_
    simp (disch := omega)
    exact hq _ _ _ _ _ _ _ _ _ _ ⟨by first | omega | (simp only; omega), fun n hn => by simp (disch := omega)⟩

end Go.Sh

namespace Go.Sh
open Go
open Go.Proofs

variable {prim : PrimF} {s : St} {Q : Value → St → Prop} {P : Lay} {ty : Nat → Ty} {ρ : Rho}

/-- A slice that was grown by appending. -/
inductive SL (k lo : Nat) (s : St) : Value → Nat → List Value → Prop
  | nil : SL k lo s (.slice none 0 0) 0 []
  | row (r n : Nat) (vals : List Value) (hr : lo ≤ r) (hlt : r < s.next) (hg : s.heap.get r = some (.cells vals (some k) false)) (hlen : vals.length = n * k) : SL k lo s (.slice (some ⟨r, 0, none⟩) n n) n vals

theorem SL.mono {k lo n : Nat} {z : Value} {vals : List Value} {s' : St} (h : SL k lo s z n vals) (hn : s.next ≤ s'.next) (hg : ∀ r, lo ≤ r → r < s.next → s'.heap.get r = s.heap.get r) : SL k lo s' z n vals := by
  cases h with
  | nil => exact .nil
  | row r n vals hr hlt hg' hlen => exact .row r n vals hr (by omega) (by rw [hg r hr hlt]; exact hg') hlen

/-- Where a slice's row lies. -/
def rowAt : Value → Nat → Prop
  | .slice (some a) _ _, j => a.block = j
  | _, _ => False

theorem SL.notAt {k lo n j : Nat} {z : Value} {vals : List Value} (h : SL k lo s z n vals) (hj : j < lo) : ¬ rowAt z j := by
  intro hz
  cases h with
  | nil => exact hz
  | row r n vals hr hlt hg hlen =>
    have hz : r = j := hz
    omega

theorem SL.notGe {k lo n j : Nat} {z : Value} {vals : List Value} (h : SL k lo s z n vals) (hj : s.next ≤ j) : ¬ rowAt z j := by
  intro hz
  cases h with
  | nil => exact hz
  | row r n vals hr hlt hg hlen =>
    have hz : r = j := hz
    omega

theorem SL.lower {k lo lo' n : Nat} {z : Value} {vals : List Value} (h : SL k lo s z n vals) (hj : lo' ≤ lo) : SL k lo' s z n vals := by
  cases h with
  | nil => exact .nil
  | row r n vals hr hlt hg hlen => exact .row r n vals (by omega) hlt hg hlen

theorem SL.inv {k lo n : Nat} {z : Value} {vals : List Value} (h : SL k lo s z n vals) : (n = 0 ∧ z = .slice none 0 0 ∧ vals = []) ∨ ∃ r, z = .slice (some ⟨r, 0, none⟩) n n ∧ lo ≤ r ∧ r < s.next ∧ s.heap.get r = some (.cells vals (some k) false) := by
  cases h with
  | nil => exact .inl ⟨rfl, rfl, rfl⟩
  | row r n vals hr hlt hg hlen => exact .inr ⟨r, rfl, hr, hlt, hg⟩

theorem SL.cell {k lo n : Nat} {z : Value} {vals : List Value} (h : SL k lo s z n vals) : isCell z = true ∧ cellsOf z = [z] := by
  cases h with
  | nil => exact ⟨rfl, rfl⟩
  | row r n vals hr hlt hg hlen => exact ⟨rfl, rfl⟩

/-- What appending needs of a type. -/
structure SlT (prim : PrimF) (t k : Nat) : Prop where
  h : ∃ ti e te, (tE prim).ty.get t = some ti ∧ ti.und = .slice e ∧ (tE prim).ty.get e = some te ∧ te.size = k ∧ te.bytes ≤ 256 ∧ sizeIs te.size te.zero = true ∧ allV isCell te.zero = true
  pos : 0 < k

theorem sl55 : SlT prim 55 2 := ⟨⟨ti55, 54, ti54, rfl, rfl, rfl, rfl, by decide, rfl, rfl⟩, by decide⟩
theorem sl32 : SlT prim 32 1 := ⟨⟨ti32, 55, ti55, rfl, rfl, rfl, rfl, by decide, rfl, rfl⟩, by decide⟩
theorem sl33 : SlT prim 33 5 := ⟨⟨ti33, 115, _, rfl, rfl, rfl, rfl, by decide, rfl, rfl⟩, by decide⟩
theorem sl36 : SlT prim 36 1 := ⟨⟨ti36, 22, ti22, rfl, rfl, rfl, rfl, by decide, rfl, rfl⟩, by decide⟩
theorem sl37 : SlT prim 37 15 := ⟨⟨ti37, 166, _, rfl, rfl, rfl, rfl, by decide, rfl, rfl⟩, by decide⟩

theorem takeN_all {l : List Value} {n : Nat} (h : l.length = n) : takeN n l = some l := by
  rw [takeN_of (by omega)]; simp [List.take_of_length_le, h]

theorem app_run {t k lo n m : Nat} {z : Value} {vals xs : List Value} {K : Value → St → Prop} (hT : SlT prim t k) (h : SL k lo s z n vals) (hm : s.heap.get m = some (.cells xs none false)) (hx : xs.length = k) (hc : allV isCell xs = true) (hn : n ≤ 4096)
    (hk : ∀ s', s'.next = s.next + 1 → s'.heap.get s.next = some (.cells (vals ++ xs) (some k) false) → (∀ j, j < s.next → ¬ rowAt z j → s'.heap.get j = s.heap.get j) → K (.slice (some ⟨s.next, 0, none⟩) (n + 1) (n + 1)) s') :
    runK (appG prim t t z (.slice (some ⟨m, 0, none⟩) 1 1) s) K := by
  obtain ⟨⟨ti, e, te, h1, h2, h3, h4, h5, h6, h7⟩, hpos⟩ := hT
  have hbytes : (n + 1) * te.bytes ≤ most := by
    have : (n + 1) * te.bytes ≤ 4097 * 256 := Nat.mul_le_mul (by omega) h5
    unfold most; omega
  cases h with
  | nil =>
    have e1 : takeN (1 * te.size) (xs.drop 0) = some xs := by rw [List.drop_zero]; exact takeN_all (by omega)
    unfold appG aappend
    simp only [h1, h2, isNum, cond_false, h3, lenOf, firstN, hm, Option.isSome_none, e1]
    have hbl : (Nat.ble (0 + 1) 0) = false := rfl
    rw [hbl]
    have hcond : (Nat.blt 0 te.size && Nat.ble ((0 + 1) * te.bytes) most && Nat.ble (0 + 1) most && sizeIs te.size te.zero && allV isCell xs && Nat.beq (([] : List Value).length + xs.length) ((0 + 1) * te.size) && allV isCell te.zero) = true := by
      rw [h6, hc, h7]
      simp only [Bool.and_true, Bool.and_eq_true, Nat.blt_eq, Nat.ble_eq, nat_beq_eq, decide_eq_true_eq]
      exact ⟨⟨⟨by omega, hbytes⟩, by unfold most; omega⟩, by simp; omega⟩
    rw [hcond]
    simp only [cond_false, cond_true, List.nil_append, h4]
    exact hk _ rfl (by simp) (fun j hj _ => by simp (disch := omega))
  | row r n vals hr hlt hg hlen =>
    have e1 : takeN (1 * te.size) (xs.drop 0) = some xs := by rw [List.drop_zero]; exact takeN_all (by omega)
    have e2 : takeN (n * te.size) (vals.drop 0) = some vals := by rw [List.drop_zero]; exact takeN_all (by rw [h4]; exact hlen)
    unfold appG aappend
    simp only [h1, h2, isNum, cond_false, h3, lenOf, firstN, hm, Option.isSome_none, e1]
    have hbl : (Nat.ble (n + 1) n) = false := by
      cases hb : Nat.ble (n + 1) n with
      | false => rfl
      | true => have := Nat.le_of_ble_eq_true hb; omega
    rw [hbl]
    have hcond : (Nat.blt 0 te.size && Nat.ble ((n + 1) * te.bytes) most && Nat.ble (n + 1) most && sizeIs te.size te.zero && allV isCell xs && Nat.beq (vals.length + xs.length) ((n + 1) * te.size) && allV isCell te.zero) = true := by
      rw [h6, hc, h7]
      simp only [Bool.and_true, Bool.and_eq_true, Nat.blt_eq, Nat.ble_eq, nat_beq_eq, decide_eq_true_eq]
      exact ⟨⟨⟨by omega, hbytes⟩, by unfold most; omega⟩, by rw [hlen, hx, h4, Nat.succ_mul]⟩
    simp only [cond_false, hg, Option.isSome_none, e2, hcond, cond_true]
    have hkk : Nat.beq k te.size = true := by rw [h4]; exact Nat.beq_refl k
    rw [hkk]
    simp only [cond_true, h4]
    refine hk _ rfl (by simp) (fun j hj hz => ?_)
    have : j ≠ r := fun e => hz (by simp [rowAt, e])
    simp (disch := omega) [Tr.get_del, this]

/-- A slice with elements that are appended to a literal without any. -/
theorem app_lit {t k n m l c : Nat} {xs : List Value} {e : Option Nat} {ro : Bool} {K : Value → St → Prop} (hT : SlT prim t k) (hn : s.heap.get n = some (.cells [] none false)) (hm : s.heap.get m = some (.cells xs e ro)) (hx : xs.length = l * k) (hc : allV isCell xs = true) (hl : l ≤ 4096)
    (hnx : n < s.next) (hk : ∀ r o s', s.next ≤ s'.next → r < s'.next → (r = n ∨ s.next ≤ r) → s'.heap.get r = some (.cells xs o false) → (∀ j, j < s.next → s'.heap.get j = s.heap.get j) → K (.slice (some ⟨r, 0, none⟩) l l) s') :
    runK (appG prim t t (.slice (some ⟨n, 0, none⟩) 0 0) (.slice (some ⟨m, 0, none⟩) l c) s) K := by
  obtain ⟨⟨ti, e', te, h1, h2, h3, h4, h5, h6, h7⟩, hpos⟩ := hT
  have e1 : takeN (l * te.size) (xs.drop 0) = some xs := by rw [List.drop_zero]; exact takeN_all (by rw [h4]; exact hx)
  have e2 : takeN (0 * te.size) (([] : List Value).drop 0) = some [] := by rw [Nat.zero_mul]; rfl
  unfold appG aappend
  simp only [h1, h2, isNum, cond_false, h3, lenOf, firstN, hm, Option.isSome_none, e1]
  by_cases hz : l = 0
  · subst hz
    have hnil : xs = [] := List.length_eq_zero_iff.1 (by rw [hx, Nat.zero_mul])
    subst hnil
    have hbl : (Nat.ble (0 + 0) 0) = true := rfl
    rw [hbl]
    simp only [cond_true]
    exact hk n none s (Nat.le_refl _) hnx (.inl rfl) hn (fun j _ => rfl)
  · have hbl : (Nat.ble (0 + l) 0) = false := by
      cases hb : Nat.ble (0 + l) 0 with
      | false => rfl
      | true => have := Nat.le_of_ble_eq_true hb; omega
    rw [hbl]
    have hbytes : (0 + l) * te.bytes ≤ most := by
      have : (0 + l) * te.bytes ≤ 4096 * 256 := Nat.mul_le_mul (by omega) h5
      unfold most; omega
    have hcond : (Nat.blt 0 te.size && Nat.ble ((0 + l) * te.bytes) most && Nat.ble (0 + l) most && sizeIs te.size te.zero && allV isCell xs && Nat.beq (([] : List Value).length + xs.length) ((0 + l) * te.size) && allV isCell te.zero) = true := by
      rw [h6, hc, h7]
      simp only [Bool.and_true, Bool.and_eq_true, Nat.blt_eq, Nat.ble_eq, nat_beq_eq, decide_eq_true_eq]
      exact ⟨⟨⟨by omega, hbytes⟩, by unfold most; omega⟩, by rw [hx, h4]; simp⟩
    simp only [cond_false, hn, Option.isSome_none, e2, hcond, cond_true, List.nil_append, allV]
    have := hk s.next (some te.size) ⟨s.heap.set s.next (.cells xs (some te.size) false), s.next + 1⟩ (by simp only; omega) (by simp only; omega) (.inr (Nat.le_refl _)) (by simp) (fun j hj => by simp (disch := omega))
    simp only [Nat.zero_add]
    exact this

/-! ### looking for a key, exactly -/
def bsr (xs : List Int) (x : Int) : Nat → Int → Int → Int
  | 0, i, _ => i
  | m + 1, i, j => if i < j then (if xs.getD ((i + j) / 2).toNat 0 < x then bsr xs x m ((i + j) / 2 + 1) j else bsr xs x m i ((i + j) / 2)) else i

theorem bsr_end {xs : List Int} {x : Int} {m : Nat} {i j : Int} (h : ¬ i < j) : bsr xs x m i j = i := by
  cases m with
  | zero => rfl
  | succ m => simp only [bsr, if_neg h]

def bsI (xs : List Int) (x : Int) : Int := bsr xs x xs.length 0 xs.length
def bsB (xs : List Int) (x : Int) : Bool := decide (bsI xs x < xs.length ∧ xs.getD (bsI xs x).toNat 0 = x)

theorem search_det (hP : POnly prim) {a : Option Addr} {n cap : Nat} {xs : List Int} {x : Int} (hn : n ≤ 4096) (hlen : xs.length = n) (hr : n = 0 ∨ ∃ b e ro, a = some ⟨b, 0, none⟩ ∧ s.heap.get b = some (.cells (xs.map (.int .u64)) e ro))
    (hq : (bsB xs x = true → 0 ≤ bsI xs x ∧ bsI xs x < n) → Q (.tuple #[.int .i64 (bsI xs x), .bool (bsB xs x)]) s) : WC (tE prim) 126 [.slice a n cap, .int .u64 x] s Q := by
  refine WC_fn (fm126 prim (hP.no _)) rfl ?_
  simp (disch := omega) [m126]
  refine loop_rule (fun m ρ s' => s' = s ∧ ρ 0 = .slice a n cap ∧ ρ 1 = .int .u64 x ∧ ρ 6 = .int .i64 n ∧ ∃ i j : Int, ρ 7 = .int .i64 i ∧ ρ 8 = .int .i64 j ∧ 0 ≤ i ∧ i ≤ j ∧ j ≤ n ∧ j - i ≤ m ∧ bsr xs x m i j = bsI xs x) ?_ n ?_
  · rintro m ρ s' ⟨rfl, h0, h1, h6, i, j, h7, h8, hi, hij, hj, hm, hb⟩
    by_cases hlt : i < j
    · rcases hr with rfl | ⟨b, e, ro, rfl, hr⟩
      · omega
      have hw : IntKind.i64.wrap (i + j) = i + j := w64 (by omega) (by omega)
      have hu : IntKind.u64.wrap (i + j) = i + j := wu64 (by omega) (by omega)
      have hd : shrI .u64 (i + j) 1 = (i + j) / 2 := Int.fdiv_eq_ediv_of_nonneg _ (by decide)
      have hw2 : IntKind.i64.wrap ((i + j) / 2) = (i + j) / 2 := w64 (by omega) (by omega)
      have hmid : 0 ≤ (i + j) / 2 ∧ (i + j) / 2 < n := by omega
      have hml : ((i + j) / 2).toNat < xs.length := by omega
      have hgd : xs.getD ((i + j) / 2).toNat 0 = xs[((i + j) / 2).toNat] := by simp [List.getD_eq_getElem?_getD, hml]
      obtain ⟨m, rfl⟩ : ∃ m', m = m' + 1 := ⟨m - 1, by omega⟩
      simp only [bsr, if_pos hlt, hgd] at hb
      simp (disch := omega) [h0, h1, h7, h8, hlt, hw, hu, hd, hw2, IntKind.bits, hr]
      refine less_ok hP ?_
      have hw3 : IntKind.i64.wrap ((i + j) / 2 + 1) = (i + j) / 2 + 1 := w64 (by omega) (by omega)
      by_cases hc : xs[((i + j) / 2).toNat] < x
      · rw [if_pos hc] at hb
        simp (disch := omega) [hc, hw3, h0, h1, h6, h8]
        exact ⟨by omega, by omega, by omega, by omega, hb⟩
      · rw [if_neg hc] at hb
        simp (disch := omega) [hc, h0, h1, h6, h7]
        exact ⟨by omega, by omega, by omega, by omega, hb⟩
    · have hbi : bsI xs x = i := by rw [← hb, bsr_end hlt]
      rw [hbi] at hq
      by_cases hin : i < n
      · rcases hr with rfl | ⟨b, e, ro, rfl, hr⟩
        · omega
        have hil : i.toNat < xs.length := by omega
        have hgd : xs.getD i.toNat 0 = xs[i.toNat] := by simp [List.getD_eq_getElem?_getD, hil]
        by_cases he : xs[i.toNat] = x
        · have hbb : bsB xs x = true := by unfold bsB; rw [hbi, hgd]; simp [he]; omega
          rw [hbb] at hq
          simp (disch := omega) [h0, h1, h6, h7, h8, hlt, hin, hr, he]
          exact hq fun _ => ⟨by omega, hin⟩
        · have hbb : bsB xs x = false := by unfold bsB; rw [hbi, hgd]; simp [he]
          rw [hbb] at hq
          simp (disch := omega) [h0, h1, h6, h7, h8, hlt, hin, hr, he]
          refine isNaN2_ok hP ?_
          simp (disch := omega)
          exact hq fun h => by cases h
      · have hbb : bsB xs x = false := by unfold bsB; rw [hbi]; simp; omega
        rw [hbb] at hq
        simp (disch := omega) [h0, h1, h6, h7, h8, hlt, hin]
        exact hq fun h => by cases h
  · simp (disch := omega)
    unfold bsI; rw [hlen]

end Go.Sh

namespace Go.Sh
open Go
open Go.Proofs

variable {prim : PrimF} {s : St} {Q : Value → St → Prop} {P : Lay} {ty : Nat → Ty} {ρ : Rho}

/-- An object that is shown. -/
structure OE where
  key : Int
  cell : Int
  i : Int
  ids : List (Int × Int)
  xs : List Int

/-- What a node holds. -/
structure VD where
  ids : Nat → List (Int × Int)
  es : List MapEntry
  c : Nat
  ob : Int → OE
  ks : List Int
  rs : List CR

structure ObAt (ty : Nat → Ty) (s : St) (o : OE) (t : Nat) : Prop where
  h : ∃ r v, s.heap.get t = some (.cells [.int .i64 o.cell, .slice (some ⟨r, 0, none⟩) o.ids.length o.ids.length, .slice (some ⟨v, 0, none⟩) o.xs.length o.xs.length, .int .i64 o.i] none false) ∧ s.heap.get r = some (.cells (idCells o.ids) none false) ∧
    s.heap.get v = some (.cells (o.xs.map (.int .u64)) none false) ∧ (ty t).isNo = false ∧ (ty r).isNo = false ∧ (ty v).isNo = false ∧ (∀ i, ty t ≠ .fix i) ∧ (∀ i, ty r ≠ .fix i) ∧ (∀ i, ty v ≠ .fix i)
  ids7 : o.ids.length ≤ 7
  xs7 : o.xs.length ≤ 7

structure Dat (P : Lay) (ty : Nat → Ty) (s : St) (D : VD) : Prop where
  slots : ∀ m, m < P.mu → s.heap.get (P.nm (25 + m)) = some (.cells (idCells (D.ids m)) none false) ∧ (D.ids m).length = P.sl
  map : MapAt P ty s D.es D.c
  key : ∀ x, (D.ob x).key = x
  ob : ∀ x t, lkE D.es x = .pointer (some ⟨t, 0, none⟩) → ObAt ty s (D.ob x) t
  tab : (s.heap.get (P.nm 14) = some (.cells [.slice none 0 0, .slice none 0 0, .int .i64 P.calls] none false) ∧ D.ks = [] ∧ D.rs = []) ∨
    ∃ ka va kc vc, s.heap.get (P.nm 14) = some (.cells [.slice (some ⟨ka, 0, none⟩) D.ks.length kc, .slice (some ⟨va, 0, none⟩) D.ks.length vc, .int .i64 P.calls] none false) ∧
      s.heap.get ka = some (.cells (D.ks.map (.int .u64)) (some 1) false) ∧ s.heap.get va = some (.cells (D.rs.flatMap (CR.cells P)) (some 15) false) ∧ (ty ka).isNo = false ∧ (ty va).isNo = false ∧ (∀ i, ty ka ≠ .fix i) ∧ (∀ i, ty va ≠ .fix i)
  rlen : D.rs.length = D.ks.length
  klen : D.ks.length ≤ P.calls
  rab : ∀ r ∈ D.rs, ty r.a = .refs 0 ∧ ty r.b = .refs 0

def Ty.isFix : Ty → Bool
  | .fix _ => true
  | _ => false
theorem nf {n : Nat} {T : Ty} (h : ty n = T) (hT : T.isFix = false) : ∀ i, ty n ≠ .fix i := fun i e => by
  rw [h] at e; subst e; cases hT

theorem Inv.dat (hI : Inv P ty s) (h3 : P.mu ≤ 3) : ∃ D, Dat P ty s D := by
  have hids : ∀ m, ∃ l, m < P.mu → s.heap.get (P.nm (25 + m)) = some (.cells (idCells l) none false) ∧ l.length = P.sl := by
    intro m
    by_cases hm : m < P.mu
    · obtain ⟨o, h1, h2⟩ := hI.fixed (25 + m) (.inr ⟨by omega, by omega⟩)
      match m, hm, h2 with
      | 0, _, h2 => obtain ⟨ids, h3, rfl⟩ := h2; exact ⟨ids, fun _ => ⟨h1, h3⟩⟩
      | 1, _, h2 => obtain ⟨ids, h3, rfl⟩ := h2; exact ⟨ids, fun _ => ⟨h1, h3⟩⟩
      | 2, _, h2 => obtain ⟨ids, h3, rfl⟩ := h2; exact ⟨ids, fun _ => ⟨h1, h3⟩⟩
      | m + 3, hm, _ => omega
    · exact ⟨[], fun h => absurd h hm⟩
  obtain ⟨es, c, hm⟩ := hI.map
  have hob : ∀ x, ∃ o : OE, o.key = x ∧ ∀ t, lkE es x = .pointer (some ⟨t, 0, none⟩) → ObAt ty s o t := by
    intro x
    rcases hm.lk x with hn | ⟨t, ht, htt⟩
    · exact ⟨⟨x, 0, 0, [], []⟩, rfl, fun t h => by rw [hn] at h; cases h⟩
    · obtain ⟨r, k, v, l, hth⟩ := hI.thing hm ht htt
      obtain ⟨cell, i, hg⟩ := hth.get
      obtain ⟨ids, hl1, _, hr⟩ := hI.refs hth.tr
      obtain ⟨xs, hl2, _, hv⟩ := hI.vals hth.tv
      refine ⟨⟨x, cell, i, ids, xs⟩, rfl, fun t' h => ?_⟩
      rw [ht] at h
      cases h
      have hk7 := hth.k7
      have hl7 := hth.l7
      exact ⟨⟨r, v, by rw [hg, hl1, hl2], hr, hv, by rw [htt]; rfl, by rw [hth.tr]; rfl, by rw [hth.tv]; rfl, nf htt rfl, nf hth.tr rfl, nf hth.tv rfl⟩, by simp only; omega, by simp only; omega⟩
  obtain ⟨idf, hidf⟩ := Classical.axiomOfChoice hids
  obtain ⟨obf, hobf⟩ := Classical.axiomOfChoice hob
  obtain ⟨n, kv, vv, hT⟩ := hI.tab
  cases hT with
  | nil h => exact ⟨⟨idf, es, c, obf, [], []⟩, hidf, hm, fun x => (hobf x).1, fun x => (hobf x).2, .inl ⟨h, rfl, rfl⟩, rfl, Nat.zero_le _, fun r hr => by cases hr⟩
  | tab n ka va hn h tk tv =>
    obtain ⟨xs, h3, h4, h5⟩ := hI.keys tk
    obtain ⟨rs, h6, h7, h8, h9⟩ := hI.cvals tv
    exact ⟨⟨idf, es, c, obf, xs, rs⟩, hidf, hm, fun x => (hobf x).1, fun x => (hobf x).2,
      .inr ⟨ka, va, n, n, by rw [h]; simp only [h3], h5, h8, by rw [tk]; rfl, by rw [tv]; rfl, nf tk rfl, nf tv rfl⟩, by simp only; omega, by simp only; omega, h9⟩

theorem Dat.move {D : VD} {s' : St} (h : Dat P ty s D) (hI : Inv P ty s) (hg : ∀ n, n < s.next → n ≠ P.nm 8 → s'.heap.get n = s.heap.get n) : Dat P ty s' D := by
  have hl : ∀ n, (ty n).isNo = false → n < s.next := hI.lt
  have f8 := hI.fx 8 (.inl (by decide))
  have h8 : ∀ n, (∀ i, ty n ≠ .fix i) → n ≠ P.nm 8 := fun n h e => h 8 (by rw [e, f8])
  refine ⟨fun m hm => ?_, ⟨?_, h.map.len, h.map.ent⟩, h.key, fun x t ht => ?_, ?_, h.rlen, h.klen, h.rab⟩
  · have u : P.use (25 + m) := .inr ⟨by omega, by omega⟩
    rw [hg _ (hI.ltn _ u) (hI.ne u (.inl (by decide)) (by omega))]
    exact h.slots m hm
  · rw [hg _ (hI.ltn 5 (.inl (by decide))) (hI.ne (.inl (by decide)) (.inl (by decide)) (by decide))]
    exact h.map.get
  · obtain ⟨⟨r, v, h1, h2, h3, h4, h5, h6, h7, h9, h10⟩, h11, h12⟩ := h.ob x t ht
    exact ⟨⟨r, v, by rw [hg _ (hl _ h4) (h8 _ h7)]; exact h1, by rw [hg _ (hl _ h5) (h8 _ h9)]; exact h2, by rw [hg _ (hl _ h6) (h8 _ h10)]; exact h3, h4, h5, h6, h7, h9, h10⟩, h11, h12⟩
  · have e14 := hg _ (hI.ltn 14 (.inl (by decide))) (hI.ne (.inl (by decide)) (.inl (by decide)) (by decide))
    rcases h.tab with ⟨h1, h2⟩ | ⟨ka, va, kc, vc, h1, h2, h3, h4, h5, h6, h7⟩
    · exact .inl ⟨by rw [e14]; exact h1, h2⟩
    · exact .inr ⟨ka, va, kc, vc, by rw [e14]; exact h1, by rw [hg _ (hl _ h4) (h8 _ h6)]; exact h2, by rw [hg _ (hl _ h5) (h8 _ h7)]; exact h3, h4, h5, h6, h7⟩

theorem Dat.keep {D : VD} {s' : St} (h : Dat P ty s D) (hI : Inv P ty s) (hk : Keep s s') : Dat P ty s' D := h.move hI fun n hn _ => hk.get n hn

/-! ### the calls that are shown -/
structure CI where
  to : Int
  num : Int
  op : Int
  field : Int
  tn : Int
  ts : Int
  value : Int
  st : Int
  code : Int
  back : Int
  sent : Int
  wait : Int
  born : Int

def CI.of (P : Lay) (r : CR) : CI := ⟨r.to, r.num, r.op, r.field, r.tn, r.ts, r.value, 1, 0, 0, r.sent, 0, P.born⟩
def CI.zero : CI := ⟨0, 0, 0, 0, 0, 0, 0, 0, 0, 0, 0, 0, 0⟩
def crZ : CR := ⟨0, 0, 0, 0, 0, 0, 0, 0, 0, 0⟩
def ciAt (P : Lay) (D : VD) (k : Int) : CI := if bsB D.ks k = true then CI.of P (D.rs.getD (bsI D.ks k).toNat crZ) else CI.zero
abbrev ciCells (c : CI) (a b : Nat) : List Value := [.int .i64 c.to, .int .u64 c.num, .int .i64 c.op, .int .i64 c.field, .int .i64 c.tn, .int .u64 c.ts, .slice (some ⟨a, 0, none⟩) 0 0, .int .u64 c.value, .int .i64 c.st, .int .i64 c.code,
  .slice (some ⟨b, 0, none⟩) 0 0, .int .u64 c.back, .int .u64 c.sent, .int .u64 c.wait, .int .u64 c.born]

theorem Dat.search {D : VD} (hD : Dat P ty s D) (hL : LayOk P) (hP : POnly prim) {x : Int} : ∃ kv vv, s.heap.get (P.nm 14) = some (.cells [kv, vv, .int .i64 P.calls] none false) ∧ (∃ a c, kv = .slice a D.ks.length c) ∧
    (∀ {Q : Value → St → Prop} {s' : St}, (∀ ka, rowAt kv ka → s'.heap.get ka = s.heap.get ka) → ((bsB D.ks x = true → 0 ≤ bsI D.ks x ∧ bsI D.ks x < D.ks.length) → Q (.tuple #[.int .i64 (bsI D.ks x), .bool (bsB D.ks x)]) s') → WC (tE prim) 126 [kv, .int .u64 x] s' Q) := by
  have hc := hL.calls1
  have hk := hD.klen
  rcases hD.tab with ⟨h1, h2, h3⟩ | ⟨ka, va, kc, vc, h1, h2, h3, _⟩
  · refine ⟨_, _, h1, ⟨none, 0, by rw [h2]; rfl⟩, fun {Q s'} _ hq => ?_⟩
    rw [h2] at hq
    exact search_det hP (xs := []) (by omega) rfl (.inl rfl) hq
  · refine ⟨_, _, h1, ⟨_, _, rfl⟩, fun {Q s'} hg hq => ?_⟩
    exact search_det hP (xs := D.ks) (by omega) rfl (.inr ⟨ka, some 1, false, rfl, by rw [hg ka rfl]; exact h2⟩) hq

theorem TGet_det (hP : POnly prim) (hL : LayOk P) (hI : Inv P ty s) {D : VD} (hD : Dat P ty s D) {k : Int}
    (hn : ∀ s', Keep s s' → bsB D.ks k = false → Q (.tuple #[.agg zeroCall.toArray, .bool false]) s')
    (hy : ∀ s', Keep s s' → bsB D.ks k = true → D.rs.getD (bsI D.ks k).toNat crZ ∈ D.rs → Q (.tuple #[.agg (CR.cells P (D.rs.getD (bsI D.ks k).toNat crZ)).toArray, .bool true]) s') :
    WC (tE prim) 92 [P.p 14, .int .u64 k] s Q := by
  refine WC_fn (fm92 prim (hP.no _)) rfl ?_
  have l14 := hI.ltn 14 (.inl (by decide))
  have k1 : Keep s ⟨s.heap.set s.next (.cells zeroCall none false), s.next + 1⟩ := ⟨by simp only; omega, fun n hn => by simp (disch := omega)⟩
  have hI1 := hI.keep k1
  have hD1 := hD.keep hI k1
  obtain ⟨kv, vv, hr, ⟨a, c, rfl⟩, hs⟩ := hD1.search (x := k) hL hP
  simp (disch := omega) at hr
  simp (disch := omega) [m92, hr]
  refine hs (fun _ _ => rfl) fun hb => ?_
  cases hbb : bsB D.ks k with
  | false =>
    simp (disch := omega)
    exact hn _ ⟨by first | omega | (simp only; omega), fun n hn => by simp (disch := omega)⟩ hbb
  | true =>
    obtain ⟨h0, h1⟩ := hb hbb
    rcases hD1.tab with ⟨_, h2, _⟩ | ⟨ka, va, kc, vc, h1', h2, h3, _, h5, _⟩
    · have : (D.ks.length : Int) = 0 := by rw [h2]; rfl
      omega
    · have hi : (bsI D.ks k).toNat < D.rs.length := by rw [hD.rlen]; omega
      have hgd : D.rs.getD (bsI D.ks k).toNat crZ = D.rs[(bsI D.ks k).toNat] := by simp [List.getD_eq_getElem?_getD, hi]
      have hg := crs_get (P := P) (xs := D.rs) (i := (bsI D.ks k).toNat) (r := D.rs[(bsI D.ks k).toNat]) (by simp [hi])
      have lva := hI.lt va h5
      simp (disch := omega) at h3 h1'
      rw [h1'] at hr
      simp only [Option.some.injEq, AObj.cells.injEq, List.cons.injEq, and_true] at hr
      obtain ⟨_, rfl⟩ := hr
      have hset : ∀ r : CR, setN zeroCall 0 (CR.cells P r) = some (CR.cells P r) := fun r => rfl
      simp (disch := omega) [h1', h3, hg, hset]
      rw [hgd] at hy
      exact hy _ ⟨by first | omega | (simp only; omega), fun n hn => by simp (disch := omega)⟩ hbb (List.getElem_mem hi)

end Go.Sh

namespace Go.Sh
open Go
open Go.Proofs

variable {prim : PrimF} {s : St} {Q : Value → St → Prop} {P : Lay} {ty : Nat → Ty} {ρ : Rho}

theorem app36_nil {n : Nat} : appG prim 36 36 (.slice (some ⟨n, 0, none⟩) 0 0) (.slice none 0 0) s = some (.slice (some ⟨n, 0, none⟩) 0 0, s) := rfl
attribute [simp] app36_nil

theorem ints_cell {xs : List Int} : allV isCell (xs.map (.int .u64)) = true := by
  induction xs with
  | nil => rfl
  | cons x xs ih => simpa [allV] using ih
theorem ids_cell {xs : List (Int × Int)} : allV isCell (idCells xs) = true := by
  induction xs with
  | nil => rfl
  | cons x xs ih => simpa [allV, idCells] using ih

theorem Keys91_ok (hP : POnly prim) (hL : LayOk P) (hI : Inv P ty s) {D : VD} (hD : Dat P ty s D)
    (hq : ∀ r e s', Keep s s' → s.next ≤ r → r < s'.next → s'.heap.get r = some (.cells (D.ks.map (.int .u64)) e false) → Q (.slice (some ⟨r, 0, none⟩) D.ks.length D.ks.length) s') : WC (tE prim) 91 [P.p 14] s Q := by
  refine WC_fn (fm91 prim (hP.no _)) rfl ?_
  have l14 := hI.ltn 14 (.inl (by decide))
  rcases hD.tab with ⟨h1, h2, h3⟩ | ⟨ka, va, kc, vc, h1, h2, h3, h4, h5, _⟩
  · simp (disch := omega) [m91, h1]
    rw [h2] at hq
    exact hq s.next none _ ⟨by simp only; omega, fun n hn => by simp (disch := omega)⟩ (by omega) (by simp only; omega) (by simp)
  · have lka := hI.lt ka h4
    have hc := hL.calls1
    have hk := hD.klen
    simp (disch := omega) [m91, h1]
    refine app_lit sl36 (xs := D.ks.map (.int .u64)) (e := some 1) (ro := false) (by simp (disch := omega)) (by simp (disch := omega) [h2]) (by simp) ints_cell (by omega) (by simp only; omega) fun r o s' h1 h2 h3 h4 h5 => ?_
    simp only at h1 h3
    simp (disch := omega)
    exact hq r o s' ⟨by omega, fun n hn => by rw [h5 n (by simp only; omega)]; simp (disch := omega)⟩ (by omega) h2 h4

def callCells (l : List (CI × Nat × Nat)) : List Value := l.flatMap fun x => ciCells x.1 x.2.1 x.2.2

theorem callCells_len (l : List (CI × Nat × Nat)) : (callCells l).length = l.length * 15 := by
  induction l with
  | nil => rfl
  | cons x l ih => simp [callCells] at ih ⊢; omega

theorem callCells_app {l : List (CI × Nat × Nat)} {c : CI} {a b : Nat} : callCells (l ++ [(c, a, b)]) = callCells l ++ ciCells c a b := by simp [callCells]

attribute [local simp] run_lit37 lit37_s

theorem CR_refs {r : CR} (hI : Inv P ty s) (h : ty r.a = .refs 0) : ZS s (.slice (some ⟨r.a, 0, none⟩) 0 0) := by
  obtain ⟨ids, h1, h2, h3⟩ := hI.refs h
  exact .inr ⟨r.a, _, _, _, rfl, h2, h3⟩

theorem All37_ok (hP : POnly prim) (hL : LayOk P) (hI : Inv P ty s) {D : VD} (hD : Dat P ty s D)
    (hq : ∀ z l s', Keep s s' → SL 15 s.next s' z l.length (callCells l) → l.map (·.1) = D.ks.map (ciAt P D) → Q z s') : WC (tE prim) 37 [P.p 13] s Q := by
  refine WC_fn (fm37 prim (hP.no _)) rfl ?_
  have l13 := hI.ltn 13 (.inl (by decide))
  have h13 := hI.const 13 (by decide)
  have hc := hL.calls1
  have hkl := hD.klen
  simp (disch := omega) [m37, h13, hL.ctq]
  refine Keys91_ok hP hL hI hD fun kr e s1 k1 lk1 lk2 gk => ?_
  have n1 := k1.next
  have hI1 := hI.keep k1
  have hD1 := hD.keep hI k1
  simp (disch := omega)
  refine loop_rule (fun m ρ s' => Keep s1 s' ∧ ρ 0 = P.p 13 ∧ ρ 12 = .slice (some ⟨kr, 0, none⟩) D.ks.length D.ks.length ∧ ρ 13 = .int .i64 D.ks.length ∧
    ∃ z l, ρ 3 = z ∧ SL 15 s1.next s' z l.length (callCells l) ∧ l.map (·.1) = (D.ks.take l.length).map (ciAt P D) ∧ ρ 14 = .int .i64 l.length ∧ l.length ≤ D.ks.length ∧ D.ks.length - l.length ≤ m) ?_ D.ks.length ?_
  · rintro m ρ s2 ⟨k2, h0, h12, h13', z, l, h3, hS, hl, h14, hle, hm⟩
    have n2 := k2.next
    have hI2 := hI1.keep k2
    have hD2 := hD1.keep hI1 k2
    have l13 := hI2.ltn 13 (.inl (by decide))
    have h13 := hI2.const 13 (by decide)
    have gk2 := (k2.get kr lk2).trans gk
    by_cases hlt : l.length < D.ks.length
    · have hx : (D.ks.map (Value.int .u64))[l.length]? = some (.int .u64 D.ks[l.length]) := by simp [hlt]
      have hlt' : (l.length : Int) < D.ks.length := by omega
      simp (disch := omega) [h0, h12, h13', h3, h14, hlt', gk2, hx, h13, hL.ctq]
      have hmx : D.ks[l.length] ∈ D.ks := List.getElem_mem hlt
      refine TGet_det hP hL hI2 hD2 (fun s3 k3 hb => ?_) (fun s3 k3 hb hmem => ?_)
      · have hci : ciAt P D D.ks[l.length] = CI.zero := by unfold ciAt; rw [hb]; rfl
        have n3 := k3.next
        have k23 := k2.trans k3
        simp (disch := omega) [h3]
        refine twin_ok hP (.inl rfl) (.inl rfl) rfl rfl rfl rfl fun a b s4 k4 _ _ _ _ _ _ _ => ?_
        have n4 := k4.next
        simp only at n4
        have k34 : Keep s2 s4 := ⟨by omega, fun n hn => by rw [k4.get n (by simp only; omega)]; simp (disch := omega) [k3.get n hn]⟩
        have k24 := k2.trans k34
        simp (disch := omega)
        have hS4 : SL 15 s1.next ⟨s4.heap.set s4.next (.cells (ciCells (ciAt P D D.ks[l.length]) a b) none false), s4.next + 1⟩ z l.length (callCells l) :=
          hS.mono (by simp only; omega) (fun r _ hr => by simp (disch := omega) [k34.get r hr])
        rw [hci] at hS4
        refine app_run sl37 hS4 (by simp (disch := omega); rfl) rfl rfl (by omega) fun s5 n5 g5 h5 => ?_
        simp only at n5 g5 h5
        have k5 : Keep s1 s5 := ⟨by omega, fun n hn => by
          rw [h5 n (by omega) (hS.notAt hn)]
          simp (disch := omega) [k24.get n hn]⟩
        have hw : IntKind.i64.wrap ((l.length : Int) + 1) = l.length + 1 := w64 (by omega) (by omega)
        simp (disch := omega) [h0, h12, h13', h14, hw]
        refine ⟨m - 1, by omega, k5, l ++ [(ciAt P D D.ks[l.length], a, b)], ?_, ?_, ?_, ?_, ?_⟩
        · have := SL.row (k := 15) (lo := s1.next) (s := s5) (s4.next + 1) (l.length + 1) (callCells (l ++ [(ciAt P D D.ks[l.length], a, b)])) (by omega) (by omega) (by rw [g5, hci, callCells_app]; rfl) (by rw [callCells_len]; simp)
          simpa using this
        · simp [hl, List.take_add_one, hlt]
        · simp
        · simp; omega
        · simp; omega
      · have hci : ciAt P D D.ks[l.length] = CI.of P (D.rs.getD (bsI D.ks D.ks[l.length]).toNat crZ) := by unfold ciAt; rw [if_pos hb]
        have n3 := k3.next
        have k23 := k2.trans k3
        simp (disch := omega) [h3, CR.cells]
        refine twin_ok hP ((CR_refs hI2 (hD.rab _ hmem).1).keep ⟨by simp only; omega, fun n hn => by simp (disch := omega) [k3.get n hn]⟩) ((CR_refs (r := ⟨0, 0, 0, 0, 0, 0, (D.rs.getD (bsI D.ks D.ks[l.length]).toNat crZ).b, 0, 0, 0⟩) hI2 (hD.rab _ hmem).2).keep ⟨by simp only; omega, fun n hn => by simp (disch := omega) [k3.get n hn]⟩) rfl rfl rfl rfl fun a b s4 k4 _ _ _ _ _ _ _ => ?_
        have n4 := k4.next
        simp only at n4
        have k34 : Keep s2 s4 := ⟨by omega, fun n hn => by rw [k4.get n (by simp only; omega)]; simp (disch := omega) [k3.get n hn]⟩
        have k24 := k2.trans k34
        simp (disch := omega)
        have hS4 : SL 15 s1.next ⟨s4.heap.set s4.next (.cells (ciCells (ciAt P D D.ks[l.length]) a b) none false), s4.next + 1⟩ z l.length (callCells l) :=
          hS.mono (by simp only; omega) (fun r _ hr => by simp (disch := omega) [k34.get r hr])
        rw [hci] at hS4
        refine app_run sl37 hS4 (by simp (disch := omega); rfl) rfl rfl (by omega) fun s5 n5 g5 h5 => ?_
        simp only at n5 g5 h5
        have k5 : Keep s1 s5 := ⟨by omega, fun n hn => by
          rw [h5 n (by omega) (hS.notAt hn)]
          simp (disch := omega) [k24.get n hn]⟩
        have hw : IntKind.i64.wrap ((l.length : Int) + 1) = l.length + 1 := w64 (by omega) (by omega)
        simp (disch := omega) [h0, h12, h13', h14, hw]
        refine ⟨m - 1, by omega, k5, l ++ [(ciAt P D D.ks[l.length], a, b)], ?_, ?_, ?_, ?_, ?_⟩
        · have := SL.row (k := 15) (lo := s1.next) (s := s5) (s4.next + 1) (l.length + 1) (callCells (l ++ [(ciAt P D D.ks[l.length], a, b)])) (by omega) (by omega) (by rw [g5, hci, callCells_app]; rfl) (by rw [callCells_len]; simp)
          simpa using this
        · simp [hl, List.take_add_one, hlt]
        · simp
        · simp; omega
        · simp; omega
    · have hge : l.length = D.ks.length := by omega
      have hlt' : ¬ (l.length : Int) < D.ks.length := by omega
      simp (disch := omega) [h0, h12, h13', h3, h14, hlt']
      refine hq z l s2 (k1.trans k2) (hS.lower n1) ?_
      rw [hl, hge, List.take_length]
  · simp (disch := omega)
    exact ⟨.refl s1, [], .nil, rfl, rfl, by simp⟩

theorem Keys87_ok (hP : POnly prim) (hL : LayOk P) (hI : Inv P ty s) (hq : ∀ r s', Keep s s' → Q (.slice (some ⟨r, 0, none⟩) 0 0) s') : WC (tE prim) 87 [P.p 12] s Q := by
  refine WC_fn (fm87 prim (hP.no _)) rfl ?_
  have h := hI.const 12 (by decide)
  have l := hI.ltn 12 (.inl (by decide))
  obtain ⟨x, hx⟩ := hL.sq
  rw [hx] at h
  simp (disch := omega) [m87, h]
  exact hq _ _ ⟨by simp only; omega, fun n hn => by simp (disch := omega)⟩

theorem Keys89_ok (hP : POnly prim) (hL : LayOk P) (hI : Inv P ty s) (hq : ∀ r s', Keep s s' → Q (.slice (some ⟨r, 0, none⟩) 0 0) s') : WC (tE prim) 89 [P.p 17] s Q := by
  refine WC_fn (fm89 prim (hP.no _)) rfl ?_
  have h := hI.const 17 (by decide)
  have l := hI.ltn 17 (.inl (by decide))
  obtain ⟨x, hx⟩ := hL.sq2
  rw [hx] at h
  simp (disch := omega) [m89, h]
  exact hq _ _ ⟨by simp only; omega, fun n hn => by simp (disch := omega)⟩

theorem Keys94_ok (hP : POnly prim) (hL : LayOk P) (hI : Inv P ty s) (hq : ∀ r s', Keep s s' → Q (.slice (some ⟨r, 0, none⟩) 0 0) s') : WC (tE prim) 94 [P.p 20] s Q := by
  refine WC_fn (fm94 prim (hP.no _)) rfl ?_
  have h := hI.const 20 (by decide)
  have l := hI.ltn 20 (.inl (by decide))
  obtain ⟨x, hx⟩ := hL.oq
  rw [hx] at h
  simp (disch := omega) [m94, h]
  exact hq _ _ ⟨by simp only; omega, fun n hn => by simp (disch := omega)⟩

theorem All35_ok (hP : POnly prim) (hL : LayOk P) (hI : Inv P ty s) (hq : ∀ s', Keep s s' → Q (.slice none 0 0) s') : WC (tE prim) 35 [P.p 11] s Q := by
  refine WC_fn (fm35 prim (hP.no _)) rfl ?_
  have h := hI.const 11 (by decide)
  simp (disch := omega) [m35, h, hL.st]
  refine Keys87_ok hP hL hI fun r s1 k1 => ?_
  simp (disch := omega)
  refine loop_exit ?_
  simp (disch := omega)
  exact hq _ k1

theorem All36_ok (hP : POnly prim) (hL : LayOk P) (hI : Inv P ty s) (hq : ∀ s', Keep s s' → Q (.slice none 0 0) s') : WC (tE prim) 36 [P.p 16] s Q := by
  refine WC_fn (fm36 prim (hP.no _)) rfl ?_
  have h := hI.const 16 (by decide)
  simp (disch := omega) [m36, h, hL.scq]
  refine Keys89_ok hP hL hI fun r s1 k1 => ?_
  simp (disch := omega)
  refine loop_exit ?_
  simp (disch := omega)
  exact hq _ k1

theorem All38_ok (hP : POnly prim) (hL : LayOk P) (hI : Inv P ty s) (hq : ∀ s', Keep s s' → Q (.slice none 0 0) s') : WC (tE prim) 38 [P.p 19] s Q := by
  refine WC_fn (fm38 prim (hP.no _)) rfl ?_
  have h := hI.const 19 (by decide)
  simp (disch := omega) [m38, h, hL.otq]
  refine Keys94_ok hP hL hI fun r s1 k1 => ?_
  simp (disch := omega)
  refine loop_exit ?_
  simp (disch := omega)
  exact hq _ k1

theorem Count_ok (hP : POnly prim) (hL : LayOk P) (hI : Inv P ty s) {x y : Int} (h1 : (P.row 21)[23]? = some (.int .u64 x)) (h2 : (P.row 21)[24]? = some (.int .i64 y)) (hq : ∀ s', Keep s s' → Q (.tuple #[.int .u64 x, .int .i64 y]) s') : WC (tE prim) 43 [P.p 21] s Q := by
  refine WC_fn (fm43 prim (hP.no _)) rfl ?_
  have h := hI.const 21 (by decide)
  simp (disch := omega) [m43, h, h1, h2]
  exact hq _ ⟨by simp only; omega, fun n hn => rfl⟩

noncomputable def lkB (prim : PrimF) (m k : Value) (s : St) : Option (Value × St) := opRun (tE prim) (fun o => match o with
  | .tmp 0 => some m
  | _ => some k) (gop (.lookup 231 (.tmp 0) (.tmp 1) false)) none s
theorem run_lkB {a b : Nat} {nm : Option Nat} : opRun (tE prim) (evO ρ) (gop (.lookup 231 (.tmp a) (.tmp b) false)) nm s = lkB prim (ρ a) (ρ b) s := rfl
theorem lkB_ok {n c : Nat} {x : Int} (hg : s.heap.get n = some (.map [] c)) : lkB prim (.map (some n)) (.int .u64 x) s = some (.int .i64 0, s) := by
  have h231 : (tE prim).ty.get 231 = some ti231 := rfl
  have h3 : (tE prim).ty.get 3 = some ti3 := rfl
  have hu : ti231.und = .map 22 3 := rfl
  have hz : zeroOf ti3 = some (.int .i64 0) := rfl
  have hk : keyOk (tE prim) 6 22 (.int .u64 x) = true := rfl
  unfold lkB opRun
  simp only [gop, cls, aread, h231, hu, h3, hz, mapOf, hg, hk, cond_true, findI, cond_false]

attribute [simp] run_lkB

theorem Buried_ok (hP : POnly prim) (hL : LayOk P) (hI : Inv P ty s) {x : Int} (hq : Q (.bool false) s) : WC (tE prim) 42 [P.p 16, .int .u64 x] s Q := by
  refine WC_fn (fm42 prim (hP.no _)) rfl ?_
  have h := hI.const 16 (by decide)
  obtain ⟨o, h18, rfl⟩ := hI.fixed 18 (.inl (by decide))
  have hlk : lkB prim (.map (some (P.nm 18))) (.int .u64 x) s = some (.int .i64 0, s) := lkB_ok h18
  simp (disch := omega) [m42, h, hL.scb, hlk]
  exact hq

/-- The object under a serial is shown. -/
theorem Object_ok (hP : POnly prim) (hL : LayOk P) (hI : Inv P ty s) {D : VD} (hD : Dat P ty s D) {x : Int} {t : Nat} (ht : lkE D.es x = .pointer (some ⟨t, 0, none⟩))
    (hq : ∀ r v o o' s', Keep s s' → s.next ≤ r → s.next ≤ v → r < s'.next → v < s'.next → s'.heap.get r = some (.cells (idCells (D.ob x).ids) o false) → s'.heap.get v = some (.cells ((D.ob x).xs.map (.int .u64)) o' false) →
      Q (.tuple #[.agg #[.int .u64 x, .int .i64 (D.ob x).cell, .slice (some ⟨r, 0, none⟩) (D.ob x).ids.length (D.ob x).ids.length, .slice (some ⟨v, 0, none⟩) (D.ob x).xs.length (D.ob x).xs.length, .int .i64 (D.ob x).i], .bool true]) s') :
    WC (tE prim) 41 [P.p 1, .int .u64 x] s Q := by
  refine WC_fn (fm41 prim (hP.no _)) rfl ?_
  obtain ⟨o1, h1, last, rfl⟩ := hI.fixed 1 (.inl (by decide))
  have l1 := hI.ltn 1 (.inl (by decide))
  have l5 := hI.ltn 5 (.inl (by decide))
  have h5 := hD.map.get
  have hlk : ∀ s' : St, s'.heap.get (P.nm 5) = some (.map D.es D.c) → lkG prim (.map (some (P.nm 5))) (.int .u64 x) s' = some (lkE D.es x, s') := fun s' h => lkG_ok h hD.map.key
  obtain ⟨⟨r, v, g1, g2, g3, g4, g5, g6, g7, g8, g9⟩, i7, x7⟩ := hD.ob x t ht
  have lt := hI.lt t g4
  have lr := hI.lt r g5
  have lv := hI.lt v g6
  simp (disch := first | omega | (simp (disch := omega) [h5]; done)) [m41, h1, hlk, ht, g1]
  refine app_lit sl55 (xs := idCells (D.ob x).ids) (e := none) (ro := false) (by simp (disch := omega)) (by simp (disch := omega) [g2]) (by rw [idCells_len]; omega) ids_cell (by omega) (by simp only; omega) fun r' o s2 h1 h2 h3 h4 h5 => ?_
  simp only at h1 h3
  have b0 := h5 s.next (by simp only; omega)
  have bt := h5 t (by simp only; omega)
  have bv := h5 v (by simp only; omega)
  simp (disch := omega) [g1, g3] at b0 bt bv
  simp (disch := omega) [bt]
  refine app_lit sl36 (xs := (D.ob x).xs.map (.int .u64)) (e := none) (ro := false) (by simp (disch := omega)) (by simp (disch := omega) [bv]) (by simp) ints_cell (by omega) (by simp only; omega) fun v' o' s3 j1 j2 j3 j4 j5 => ?_
  simp only at j1 j3
  have c0 := j5 s.next (by simp only; omega)
  have ct := j5 t (by simp only; omega)
  have cr := j5 r' (by simp only; omega)
  simp (disch := omega) [b0, bt, h4] at c0 ct cr
  simp (disch := omega) [c0, ct]
  refine hq r' v' o o' _ ⟨by simp only; omega, fun n hn => ?_⟩ (by omega) (by omega) (by simp only; omega) (by simp only; omega) (by simp (disch := omega) [cr]) (by simp (disch := omega) [j4])
  have e1 := h5 n (by simp only; omega)
  have e2 := j5 n (by simp only; omega)
  simp (disch := omega) [e1] at e1 e2
  simp (disch := omega) [e2, e1]

end Go.Sh
