/-
  NodeTicks: the clock goes on. NodeTicks: the law itself.
-/
import Derived.Test.YtnhofgbjmofcnaaGreatRWb

namespace Go.Sh
open Go
open Go.Proofs

variable {prim : PrimF} {s : St} {Q : Value → St → Prop} {P : Lay} {ty : Nat → Ty} {ρ : Rho}

/-- The layout at another time. -/
def Lay.at (P : Lay) (now : Int) : Lay := { P with now := now }

theorem LayOk.at (hL : LayOk P) {now : Int} (h0 : 0 ≤ now) (h1 : now < 18446744073709551616) : LayOk (P.at now) :=
  ⟨hL.mu1, hL.slp, hL.mu3, hL.n, hL.a, hL.r, hL.rr, hL.y0, hL.y7, hL.sh, hL.st, hL.sq, hL.ctn, hL.ctc, hL.ctw, hL.ctp, hL.cts, hL.ctl, hL.ctq, hL.scq, hL.scb, hL.sq2, hL.otq, hL.oq, hL.tr1, hL.tr2, hL.sl1, hL.nb1, hL.nd1, hL.calls1, hL.ob1, h0, h1⟩

theorem FixObj.at {now : Int} {i : Nat} {o : AObj} (h : FixObj P ty i o) (hi : i ≠ 8) : FixObj (P.at now) ty i o := by
  match i, hi, h with
  | 8, hi, _ => exact absurd rfl hi
  | 0, _, h => exact h
  | 1, _, h => exact h
  | 2, _, h => exact h
  | 3, _, h => exact h
  | 4, _, h => exact h
  | 5, _, h => exact h
  | 6, _, h => exact h
  | 7, _, h => exact h
  | 9, _, h => exact h
  | 10, _, h => exact h
  | 11, _, h => exact h
  | 12, _, h => exact h
  | 13, _, h => exact h
  | 14, _, h => exact h
  | 15, _, h => exact h
  | 16, _, h => exact h
  | 17, _, h => exact h
  | 18, _, h => exact h
  | 19, _, h => exact h
  | 20, _, h => exact h
  | 21, _, h => exact h
  | 22, _, h => exact h
  | 23, _, h => exact h
  | 24, _, h => exact h
  | 25, _, h => exact h
  | 26, _, h => exact h
  | 27, _, h => exact h
  | n + 28, _, h => exact h

theorem Inv.retime (hI : Inv P ty s) {now : Int} {s' : St} (hn : s.next ≤ s'.next) (hg : ∀ n, n < s.next → n ≠ P.nm 8 → s'.heap.get n = s.heap.get n) (hc : s'.heap.get (P.nm 8) = some (.cells [.int .u64 now] none false)) : Inv (P.at now) ty s' where
  lt := fun n h => Nat.lt_of_lt_of_le (hI.lt n h) hn
  fx := hI.fx
  un := hI.un
  obj := fun n hl => by
    by_cases e : n = P.nm 8
    · subst e
      have h8 : ty (P.nm 8) = .fix 8 := hI.fx 8 (.inl (by decide))
      rw [h8]
      exact ⟨_, hc, rfl⟩
    · rw [hg n (hI.lt n (live_isNo hl)) e]
      obtain ⟨o, h1, h2⟩ := hI.obj n hl
      refine ⟨o, h1, ?_⟩
      cases ht : ty n with
      | fix i =>
        rw [ht] at h2
        have hi : i ≠ 8 := by
          rintro rfl
          exact e (hI.un n 8 ht)
        exact FixObj.at (i := i) h2 hi
      | no => trivial
      | dead => trivial
      | thing => rw [ht] at h2; exact h2
      | refs k => rw [ht] at h2; exact h2
      | vals k => rw [ht] at h2; exact h2
      | keys k => rw [ht] at h2; exact h2
      | cvals k => rw [ht] at h2; exact h2

theorem Dat.at {D : VD} (h : Dat P ty s D) {now : Int} : Dat (P.at now) ty s D := ⟨h.slots, ⟨h.map.get, h.map.len, h.map.ent⟩, h.key, h.ob, h.tab, h.rlen, h.klen, h.rab⟩

theorem ViewIs.at {D : VD} {lo : Nat} {now t : Int} {v : Value} (h : ViewIs (P.at t) D lo now s v) : ViewIs P D lo now s v := ⟨h.ex⟩

theorem ViewIs.move {D : VD} {lo : Nat} {now : Int} {s' : St} {v : Value} (h : ViewIs P D lo now s v) (hn : s.next ≤ s'.next) (hg : ∀ n, lo ≤ n → n < s.next → s'.heap.get n = s.heap.get n) : ViewIs P D lo now s' v := by
  obtain ⟨zS, zO, zC, rows, ol, lC, x, y, h1, h2, h3, h4, h5, h6, h7, h8, h9, h10, h11⟩ := h.ex
  refine ⟨zS, zO, zC, rows, ol, lC, x, y, h1, h2, h3, h4.mono hn hg, h5, fun x hx => ?_, h7.mono hn hg, fun x hx => ?_, h9, h10.mono hn hg, h11⟩
  · obtain ⟨a1, a2, a3⟩ := h6 x hx
    exact ⟨a1, Nat.lt_of_lt_of_le a2 hn, by rw [hg _ a1 a2]; exact a3⟩
  · exact (h8 x hx).move hn (hg _ (h8 x hx).h1 (h8 x hx).h3) (hg _ (h8 x hx).h2 (h8 x hx).h4)

theorem ViewIs.retime {D : VD} {lo : Nat} {now t x y : Int} {zS zO zC : Value} (h : ViewIs P D lo now s (.agg (viewL now zS zO zC x y).toArray)) : ViewIs P D lo t s (.agg (viewL t zS zO zC x y).toArray) := by
  obtain ⟨zS', zO', zC', rows, ol, lC, x', y', h1, h2, h3, h4, h5, h6, h7, h8, h9, h10, h11⟩ := h.ex
  simp only [Value.agg.injEq, Array.mk.injEq, List.cons.injEq, Value.int.injEq, true_and, and_true] at h1
  obtain ⟨rfl, rfl, rfl, rfl, rfl⟩ := h1
  exact ⟨zS, zO, zC, rows, ol, lC, x, y, rfl, h2, h3, h4, h5, h6, h7, h8, h9, h10, h11⟩

/-- What a tick answers. -/
def tickE (now x : Int) : Int := if 4294967295 < x then 1 else if 4611686018427387904 - now < x then 7 else 0
def tickN (now x : Int) : Int := if tickE now x = 0 then now + x else now

theorem tickN_ok {now x : Int} (h0 : 0 ≤ now) (h1 : now ≤ 4611686018427387904) (h2 : 0 ≤ x) : 0 ≤ tickN now x ∧ tickN now x ≤ 4611686018427387904 := by
  unfold tickN tickE
  by_cases h3 : 4294967295 < x
  · simp [h3]; omega
  · by_cases h4 : 4611686018427387904 - now < x
    · simp [h3, h4]; omega
    · simp [h3, h4]; omega

theorem Tick_ok (hP : POnly prim) {K : Nat} {now x : Int} (hc : s.heap.get K = some (.cells [.int .u64 now] none false)) (h0 : 0 ≤ now) (h1 : now ≤ 4611686018427387904) (h2 : 0 ≤ x)
    (hq : ∀ s', s'.next = s.next → (∀ n, n ≠ K → s'.heap.get n = s.heap.get n) → s'.heap.get K = some (.cells [.int .u64 (tickN now x)] none false) → Q (.int .i64 (tickE now x)) s') : WC (tE prim) 15 [.pointer (some ⟨K, 0, none⟩), .int .u64 x] s Q := by
  refine WC_fn (fm15 prim (hP.no _)) rfl ?_
  have hw : IntKind.u64.wrap (4611686018427387904 - now) = 4611686018427387904 - now := wu64 (by omega) (by omega)
  by_cases h3 : 4294967295 < x
  · have e : tickE now x = 1 := by unfold tickE; rw [if_pos h3]
    have e2 : tickN now x = now := by unfold tickN; rw [e]; rfl
    rw [e, e2] at hq
    simp (disch := omega) [m15, h3]
    exact hq _ rfl (fun n _ => rfl) hc
  by_cases h4 : 4611686018427387904 - now < x
  · have e : tickE now x = 7 := by unfold tickE; rw [if_neg h3, if_pos h4]
    have e2 : tickN now x = now := by unfold tickN; rw [e]; rfl
    rw [e, e2] at hq
    simp (disch := omega) [m15, h3, hc, hw, h4]
    exact hq _ rfl (fun n _ => rfl) hc
  · have e : tickE now x = 0 := by unfold tickE; rw [if_neg h3, if_neg h4]
    have e2 : tickN now x = now + x := by unfold tickN; rw [e]; rfl
    rw [e, e2] at hq
    have hw2 : IntKind.u64.wrap (now + x) = now + x := wu64 (by omega) (by omega)
    simp (disch := omega) [m15, h3, hc, hw, h4, hw2]
    refine hq _ ?_ ?_ ?_
    · rfl
    · intro n hn; simp (disch := omega) [hn]
    · simp

end Go.Sh

namespace Go.Sh
open Go
open Go.Proofs

variable {prim : PrimF} {s : St} {Q : Value → St → Prop} {P : Lay} {ty : Nat → Ty} {ρ : Rho}

theorem CfgOk.start {c : Nat → Int} (hc : CfgOk c) {x : Int} (h0 : 0 ≤ x) (h1 : x ≤ 4611686018427387904) : CfgOk (fun i => if i = 20 then x else c i) :=
  ⟨hc.c0, hc.c1, hc.c2, hc.c3, hc.c3m, hc.c4, hc.c5, hc.c6, hc.c7, hc.c8, hc.c9, hc.c10, hc.c11, hc.c12, hc.c13, hc.c13m, hc.c14, hc.c15, hc.c16, hc.c17, hc.c18, hc.c19, ⟨h0, h1⟩, hc.c21⟩

theorem sameN_slice (n : Nat) {a : Option Addr} (ha : ∀ x, a = some x → x.spot = none) {l c : Nat} : sameN (n + 1) (.slice a l c) (.slice a l c) = true := by
  cases a with
  | none => simp [sameN, sameA, nat_beq_eq]
  | some x =>
    obtain ⟨b, o, sp⟩ := x
    have := ha _ rfl
    simp only at this
    subst this
    simp [sameN, sameA, nat_beq_eq]

theorem SL.slice {k lo n : Nat} {z : Value} {vals : List Value} (h : SL k lo s z n vals) : ∃ a l c, z = .slice a l c ∧ ∀ x, a = some x → x.spot = none := by
  cases h with
  | nil => exact ⟨_, _, _, rfl, fun x h => by cases h⟩
  | row r n vals hr hlt hg hlen => exact ⟨_, _, _, rfl, fun x h => by cases h; rfl⟩

theorem sameV_view {now x y : Int} {zS zO zC : Value} (h1 : ∃ a l c, zS = .slice a l c ∧ ∀ x, a = some x → x.spot = none) (h2 : ∃ a l c, zO = .slice a l c ∧ ∀ x, a = some x → x.spot = none) (h3 : ∃ a l c, zC = .slice a l c ∧ ∀ x, a = some x → x.spot = none) :
    sameV (.agg #[.int .u64 now, .int .u64 0, .int .i64 0, .int .i64 0, zS, zO, nilS, nilS, nilS, zC, nilS, .int .u64 x, .int .i64 y]) (.agg #[.int .u64 now, .int .u64 0, .int .i64 0, .int .i64 0, zS, zO, nilS, nilS, nilS, zC, nilS, .int .u64 x, .int .i64 y]) = true := by
  obtain ⟨a, l, c, rfl, h1⟩ := h1
  obtain ⟨a', l', c', rfl, h2⟩ := h2
  obtain ⟨a'', l'', c'', rfl, h3⟩ := h3
  have e1 := sameN_slice 4 h1 (l := l) (c := c)
  have e2 := sameN_slice 4 h2 (l := l') (c := c')
  have e3 := sameN_slice 4 h3 (l := l'') (c := c'')
  unfold sameV
  unfold sameN
  simp only [sameL, Bool.and_true, Bool.and_eq_true, e1, e2, e3]
  simp [sameN, sameA, nat_beq_eq]

theorem Lay.at_now {t : Int} : (P.at t).now = t := (rfl)

/-- Steps in a row: of each, what is done. -/
def StepsAt (s : St) (z : Value) (n : Nat) : Prop := ∃ a c, z = .slice a n c ∧ (n = 0 ∨ ∃ L row, a = some ⟨L, 0, none⟩ ∧ L < s.next ∧ s.heap.get L = some (.cells row none true) ∧ n * 31 ≤ row.length ∧
  ∀ i, i < n → ∃ k a b f r v t val num, takeN 9 (row.drop (i * 31 + 2)) = some (opL k a b f r v t val num))

def NumsAt (s : St) (z : Value) (xs : List Int) : Prop := ∃ a c, z = .slice a xs.length c ∧ (∀ x ∈ xs, 0 ≤ x) ∧ (xs.length = 0 ∨ ∃ L, a = some ⟨L, 0, none⟩ ∧ L < s.next ∧ s.heap.get L = some (.cells (xs.map (.int .u64)) none true))

theorem eq25 {a : Addr} : eqv0 (tE prim) s 25 (.pointer (some a)) (.pointer none) = some false := rfl
attribute [local simp] eq25

theorem known_ok (hP : POnly prim) (hq : Q (.bool true) ⟨s.heap, s.next + 557⟩) : WC (tE prim) 6 [] s Q := WC_prim (E := tE prim) hP.known rfl hq

set_option maxRecDepth 100000 in
set_option maxHeartbeats 3200000 in
theorem law_ok (hP : POnly prim) {r : Nat → Int} (h20 : 0 ≤ r 20 ∧ r 20 < 18446744073709551616) (h21 : 0 ≤ r 21 ∧ r 21 < 18446744073709551616) {zL zB : Value} {n : Nat} {xs : List Int} {back : Int} (hb : 0 ≤ back ∧ back < 4294967296)
    (hLs : StepsAt s zL n) (hBs : NumsAt s zB xs) (hq : ∀ s', Q (.bool true) s') : WC (tE prim) 4 [rawV r, zL, zB, .int .u32 back] s Q := by
  refine WC_fn (fm4 prim (hP.no _)) rfl ?_
  have k0 : Keep s ⟨s.heap.set s.next (.cells [.int .i64 (r 0), .int .i64 (r 1), .int .i64 (r 2), .int .i64 (r 3), .int .i64 (r 4), .int .i64 (r 5), .int .i64 (r 6), .int .i64 (r 7), .int .i64 (r 8),
    .int .i64 (r 9), .int .i64 (r 10), .int .i64 (r 11), .int .i64 (r 12), .int .i64 (r 13), .int .i64 (r 14), .int .i64 (r 15), .int .i64 (r 16), .int .i64 (r 17), .int .i64 (r 18), .int .i64 (r 19), .int .u64 (r 20), .int .u64 (r 21)] none false), s.next + 1⟩ := ⟨by simp only; omega, fun n hn => by simp (disch := omega)⟩
  simp (disch := omega) [m4]
  refine Config_ok hP h20 h21 fun c hc s1 k1 => ?_
  have n1 := k1.next
  simp only at n1
  have kk1 := k0.trans k1
  have w1 : IntKind.u64.wrap back = back := wu64 (by omega) (by omega)
  have w2 : IntKind.u64.wrap (4611686018427387904 - back) = 4611686018427387904 - back := wu64 (by omega) (by omega)
  have w3 : IntKind.u64.wrap (4611686018427387904 - back - 1) = 4611686018427387904 - back - 1 := wu64 (by omega) (by omega)
  simp (disch := omega) [w1, w2, w3]
  have hc' := hc.start (x := 4611686018427387904 - back - 1) (by omega) (by omega)
  generalize hs2 : (St.mk _ _) = s2
  have n2 : s2.next = s1.next + 1 := by rw [← hs2]
  have kk2 : Keep s s2 := ⟨by omega, fun n hn => by rw [← hs2]; simp (disch := omega) [kk1.get n hn]⟩
  have g9 : s2.heap.get s1.next = some (.cells (cfgL fun i => if i = 20 then 4611686018427387904 - back - 1 else c i) none false) := by rw [← hs2]; simp (disch := omega)
  refine nodeMake_ok hP hc' fun P ty s3 hL hN hnow hI k3 hge => ?_
  have n3 := k3.next
  have K3 := kk2.trans k3
  have no3 : ∀ m, m < s2.next → (ty m).isNo = true := fun m hm => by
    cases h : (ty m).isNo with
    | true => rfl
    | false => exact absurd (hge m h) (by omega)
  have f3 : ∀ m, m < s2.next → s3.heap.get m = s2.heap.get m := k3.get
  simp (disch := omega)
  refine known_ok hP ?_
  simp (disch := omega)
  obtain ⟨aL, cL, rfl, hLs⟩ := hLs
  obtain ⟨aB, cB, rfl, hx0, hBs⟩ := hBs
  have hcc : CfgOk (fun i => if i = 20 then 4611686018427387904 - back - 1 else c i) := hc'
  refine loop_rule (fun m ρ s' => s3.next ≤ s'.next ∧ (∃ ty', Inv P ty' s' ∧ (∀ q, q < s2.next → (ty' q).isNo = true)) ∧ (∀ q, q < s2.next → s'.heap.get q = s2.heap.get q) ∧ ρ 1 = .slice aL n cL ∧ ρ 2 = .slice aB xs.length cB ∧ ρ 9 = .pointer (some ⟨s1.next, 0, none⟩) ∧ ρ 10 = P.p 0 ∧
    ∃ i : Nat, ρ 12 = .int .i64 i ∧ i ≤ 20 ∧ 20 - i ≤ m) ?_ 20 ?_
  · rintro m ρ s4 ⟨n4, ⟨ty4, hI4, no4⟩, f4, q1, q2, q9, q10, i, q12, hi, hm⟩
    by_cases hgo : i < n ∧ i < 20
    · have hlt : (i : Int) < n := by omega
      have hlt2 : (i : Int) < 20 := by omega
      rcases hLs with h | ⟨L, row, rfl, hLl, hLg, hLlen, hops⟩
      · omega
      have gL := (f4 L (by omega)).trans ((kk2.get L hLl).trans hLg)
      have g9' := (f4 s1.next (by omega)).trans g9
      obtain ⟨k, oa, ob, of, or', ov, ot, oval, onum, hop⟩ := hops i hgo.1
      have hil : i * 31 + 31 ≤ n * 31 := by omega
      simp (disch := omega) [q1, q9, q12, hlt, hlt2, gL, g9', hop]
      have hn9 : ∀ m, s4.next ≤ m → (ty4 m).isNo = true := fun m => hI4.noge
      have k5 : Keep s4 ⟨s4.heap, s4.next + 9⟩ := ⟨by simp only; omega, fun n hn => rfl⟩
      refine op_ok hP (c := fun i => if i = 20 then 4611686018427387904 - back - 1 else c i) (by have := hc.c0; simpa using (by omega : 0 < c 0)) (by have := hc.c0; simpa using (by omega : c 0 < 1000)) (by have := hc.c2; simpa using (by omega : 0 < c 2)) (by have := hc.c2; simpa using (by omega : c 2 < 1000))
        fun k' oa' ob' of' or'' ov' ot' oval' onum' s6 k6 => ?_
      have n6 := k6.next
      simp only at n6
      simp (disch := omega) [q10]
      have hJ := (hI4.keep (k5.trans k6)).fin2 (.of_keep (k5.trans k6)) (w := s4.next + 7) (v := s4.next + 7) (o := .cells (opL 0 0 0 0 0 0 0 0 0) none false) (q := .cells (opL k' oa' ob' of' or'' ov' ot' oval' onum') none false) (nx := s6.next) (by omega) (hn9 _ (by omega)) (by omega) (hn9 _ (by omega)) (by omega)
      refine Do_ok hP hL hN hJ.1 fun x ty7 s7 h7 => ?_
      have hG7 := hJ.2.trans h7.2
      have n7 := hG7.next
      have hw : IntKind.i64.wrap ((i : Int) + 1) = i + 1 := w64 (by omega) (by omega)
      simp (disch := omega) [q1, q2, q9, q10, q12, hw]
      exact ⟨m - 1, by omega, by omega, ⟨ty7, h7.1, fun q hq => (hG7.get q (by omega) (no4 q hq)).1⟩, fun q hq => by rw [(hG7.get q (by omega) (no4 q hq)).2, f4 q hq], i + 1, by simp, by omega, by omega⟩
    · have hcase : ¬ (i : Int) < n ∨ ((i : Int) < n ∧ ¬ (i : Int) < 20) := by omega
      have hnow' : P.now = 4611686018427387904 - back - 1 := by rw [hnow]; rfl
      obtain ⟨D, hD⟩ := hI4.dat hL.mu3
      rcases hcase with hlt | ⟨hlt, hlt2⟩
      · simp (disch := omega) [q1, q10, q12, hlt]
        refine View_ok hP hL hI4 hD fun v s5 k5 hv => ?_
        obtain ⟨zS, zO, zC, rows, ol, lC, x, y, hveq, hvx, hvy, hS, hrows, hR, hO, hOk, hol, hC, hlC⟩ := hv.ex
        subst hveq
        have n5 := k5.next
        have hI5 := hI4.keep k5
        have hD5 := hD.keep hI4 k5
        have l8 := hI5.ltn 8 (.inl (by decide))
        have l0 := hI5.ltn 0 (.inl (by decide))
        have ne08 := hI5.ne (.inl (by decide : 0 < 22)) (.inl (by decide : 8 < 22)) (by decide)
        have ge8 : s2.next ≤ P.nm 8 := hge _ (by rw [hI.fx 8 (.inl (by decide))]; rfl)
        have hn5 := hI5.const 0 (by decide)
        obtain ⟨cc, _, _, _, hrow0⟩ := hL.n
        rw [hrow0] at hn5
        simp (disch := omega) [q2, hS.cell.1, hS.cell.2, hO.cell.1, hO.cell.2, hC.cell.1, hC.cell.2]
        refine loop_rule (fun m ρ s' => s5.next < s'.next ∧ (∀ q, q < s5.next → q ≠ P.nm 8 → s'.heap.get q = s5.heap.get q) ∧ ρ 2 = .slice aB xs.length cB ∧ ρ 10 = P.p 0 ∧ ρ 14 = .pointer (some ⟨s5.next, 0, none⟩) ∧
          ∃ now : Int, 0 ≤ now ∧ now ≤ 4611686018427387904 ∧ s'.heap.get (P.nm 8) = some (.cells [.int .u64 now] none false) ∧ s'.heap.get s5.next = some (.cells (viewL now zS zO zC x y) none false) ∧ ∃ j : Nat, ρ 15 = .int .i64 j ∧ j ≤ 30 ∧ 30 - j ≤ m) ?_ 30 ?_
        · rintro m ρ s6 ⟨n6, f6, p2, p10, p14, now, hnow0, hnow1, hclk, hB, j, p15, hj, hm⟩
          have hI6 := hI5.retime (now := now) (s' := s6) (by omega) f6 hclk
          have hn6 := (f6 (P.nm 0) l0 ne08).trans hn5
          by_cases hgo : j < xs.length ∧ j < 30
          · have hlt : (j : Int) < xs.length := by omega
            have hlt2 : (j : Int) < 30 := by omega
            rcases hBs with h | ⟨B, rfl, hBl, hBg⟩
            · omega
            have gB5 : s5.heap.get B = _ := (k5.get B (by omega)).trans ((f4 B (by omega)).trans ((kk2.get B hBl).trans hBg))
            have gB := (f6 B (by omega) (by omega)).trans gB5
            have hx := hx0 xs[j] (List.getElem_mem hgo.1)
            have hgx : (xs.map (Value.int .u64))[j]? = some (.int .u64 xs[j]) := by simp [hgo.1]
            simp (disch := omega) [p2, p10, p15, hlt, hlt2, hn6, gB, hgx]
            refine Tick_ok hP hclk hnow0 hnow1 hx fun s7 nx7 fr7 ck7 => ?_
            simp only at nx7 fr7
            have hw : IntKind.i64.wrap ((j : Int) + 1) = j + 1 := w64 (by omega) (by omega)
            have gB7 := (fr7 B (by omega)).trans gB
            have hBB := (fr7 s5.next (by omega)).trans hB
            have hws : IntKind.u64.wrap (4611686018427387904 - now) = 4611686018427387904 - now := wu64 (by omega) (by omega)
            by_cases t3 : 4294967295 < xs[j]
            · have eE : tickE now xs[j] = 1 := by unfold tickE; rw [if_pos t3]
              have eN : tickN now xs[j] = now := by unfold tickN; rw [eE]; rfl
              rw [eN] at ck7
              rw [eE]
              simp (disch := omega) [p2, p10, p14, p15, gB7, hgx, hBB, t3]
              generalize hu : (St.mk _ _) = u
              have un : s6.next ≤ u.next := by rw [← hu]; simp only; omega
              have uB : u.heap.get s5.next = some (.cells (viewL (now) zS zO zC x y) none false) := by rw [← hu]; first | exact hBB | simp
              have uf : ∀ q, q < s5.next → q ≠ P.nm 8 → u.heap.get q = s5.heap.get q := fun q h1 h2 => by
                rw [← hu]
                first
                | (simp only; rw [fr7 q h2, f6 q h1 h2]; done)
                | (simp (disch := omega) [fr7 q h2, f6 q h1 h2]; done)
              have uc : u.heap.get (P.nm 8) = some (.cells [.int .u64 (now)] none false) := by rw [← hu]; first | exact ck7 | simp (disch := omega) [ck7]
              have hIu := hI5.retime (now := now) (s' := u) (by omega) uf uc
              have hDu : Dat (P.at (now)) ty4 u D := (hD5.move hI5 uf).at
              refine View_ok (P := P.at now) hP (hL.at (by omega) (by omega)) hIu hDu fun v8 s8 k8 hv8 => ?_
              obtain ⟨zS8, zO8, zC8, rows8, ol8, lC8, x8, y8, rfl, _⟩ := hv8.ex
              have n8 := k8.next
              have B8 := (k8.get s5.next (by omega)).trans uB
              simp (disch := omega) [p2, p10, p14, p15, B8, hw, Lay.at_now]
              exact ⟨m - 1, by omega, by omega, fun q h1 h2 => by rw [k8.get q (by omega), uf q h1 h2], now, by omega, by omega, (k8.get _ (by omega)).trans uc, rfl, j + 1, by simp, by omega, by omega⟩
            by_cases t4 : 4611686018427387904 - now < xs[j]
            · have eE : tickE now xs[j] = 7 := by unfold tickE; rw [if_neg t3, if_pos t4]
              have eN : tickN now xs[j] = now := by unfold tickN; rw [eE]; rfl
              rw [eN] at ck7
              rw [eE]
              simp (disch := omega) [p2, p10, p14, p15, gB7, hgx, hBB, t3, t4, hws]
              generalize hu : (St.mk _ _) = u
              have un : s6.next ≤ u.next := by rw [← hu]; simp only; omega
              have uB : u.heap.get s5.next = some (.cells (viewL (now) zS zO zC x y) none false) := by rw [← hu]; first | exact hBB | simp
              have uf : ∀ q, q < s5.next → q ≠ P.nm 8 → u.heap.get q = s5.heap.get q := fun q h1 h2 => by
                rw [← hu]
                first
                | (simp only; rw [fr7 q h2, f6 q h1 h2]; done)
                | (simp (disch := omega) [fr7 q h2, f6 q h1 h2]; done)
              have uc : u.heap.get (P.nm 8) = some (.cells [.int .u64 (now)] none false) := by rw [← hu]; first | exact ck7 | simp (disch := omega) [ck7]
              have hIu := hI5.retime (now := now) (s' := u) (by omega) uf uc
              have hDu : Dat (P.at (now)) ty4 u D := (hD5.move hI5 uf).at
              refine View_ok (P := P.at now) hP (hL.at (by omega) (by omega)) hIu hDu fun v8 s8 k8 hv8 => ?_
              obtain ⟨zS8, zO8, zC8, rows8, ol8, lC8, x8, y8, rfl, _⟩ := hv8.ex
              have n8 := k8.next
              have B8 := (k8.get s5.next (by omega)).trans uB
              simp (disch := omega) [p2, p10, p14, p15, B8, hw, Lay.at_now]
              exact ⟨m - 1, by omega, by omega, fun q h1 h2 => by rw [k8.get q (by omega), uf q h1 h2], now, by omega, by omega, (k8.get _ (by omega)).trans uc, rfl, j + 1, by simp, by omega, by omega⟩
            have hwa : IntKind.u64.wrap (now + xs[j]) = now + xs[j] := wu64 (by omega) (by omega)
            · have eE : tickE now xs[j] = 0 := by unfold tickE; rw [if_neg t3, if_neg t4]
              have eN : tickN now xs[j] = now + xs[j] := by unfold tickN; rw [eE]; rfl
              rw [eN] at ck7
              rw [eE]
              simp (disch := omega) [p2, p10, p14, p15, gB7, hgx, hBB, t3, t4, hws, hwa]
              generalize hu : (St.mk _ _) = u
              have un : s6.next ≤ u.next := by rw [← hu]; simp only; omega
              have uB : u.heap.get s5.next = some (.cells (viewL (now + xs[j]) zS zO zC x y) none false) := by rw [← hu]; first | exact hBB | simp
              have uf : ∀ q, q < s5.next → q ≠ P.nm 8 → u.heap.get q = s5.heap.get q := fun q h1 h2 => by
                rw [← hu]
                first
                | (simp only; rw [fr7 q h2, f6 q h1 h2]; done)
                | (simp (disch := omega) [fr7 q h2, f6 q h1 h2]; done)
              have uc : u.heap.get (P.nm 8) = some (.cells [.int .u64 (now + xs[j])] none false) := by rw [← hu]; first | exact ck7 | simp (disch := omega) [ck7]
              have hIu := hI5.retime (now := now + xs[j]) (s' := u) (by omega) uf uc
              have hDu : Dat (P.at (now + xs[j])) ty4 u D := (hD5.move hI5 uf).at
              refine View_ok (P := P.at (now + xs[j])) hP (hL.at (by omega) (by omega)) hIu hDu fun v8 s8 k8 hv8 => ?_
              obtain ⟨zS8, zO8, zC8, rows8, ol8, lC8, x8, y8, rfl, _⟩ := hv8.ex
              have n8 := k8.next
              have B8 := (k8.get s5.next (by omega)).trans uB
              simp (disch := omega) [p2, p10, p14, p15, B8, hw, Lay.at_now]
              exact ⟨m - 1, by omega, by omega, fun q h1 h2 => by rw [k8.get q (by omega), uf q h1 h2], now + xs[j], by omega, by omega, (k8.get _ (by omega)).trans uc, rfl, j + 1, by simp, by omega, by omega⟩
          · have hcase2 : ¬ (j : Int) < xs.length ∨ ((j : Int) < xs.length ∧ ¬ (j : Int) < 30) := by omega
            have hDu : Dat (P.at now) ty4 ⟨s6.heap, s6.next + 5⟩ D := (hD5.move (s' := ⟨s6.heap, s6.next + 5⟩) hI5 f6).at
            have hIu : Inv (P.at now) ty4 ⟨s6.heap, s6.next + 5⟩ := hI6.keep ⟨by simp only; omega, fun n hn => rfl⟩
            have hv6 : ViewIs P D (s4.next + 1) now s6 (.agg (viewL now zS zO zC x y).toArray) := (hv.move (s' := s6) (by omega) (fun q h1 h2 => f6 q h2 (by have := hI4.ltn 8 (.inl (by decide)); omega))).retime
            have hids : ∀ m, m < P.mu → (D.ids m).length = P.sl := fun m hm => (hD.slots m hm).2
            have hes : D.es.length ≤ 64 := Nat.le_trans hD.map.len hL.ob1
            have hks : D.ks.length ≤ 64 := Nat.le_trans hD.klen hL.calls1
            rcases hcase2 with u1 | ⟨u1, u2⟩
            · simp (disch := omega) [p2, p10, p14, p15, u1, hB]
              refine View_ok (P := P.at now) hP (hL.at (by omega) (by omega)) hIu hDu fun v8 s8 k8 hv8 => ?_
              have n8 := k8.next
              simp only at n8
              have B8 := (k8.get s5.next (by simp only; omega)).trans hB
              have hvw := hv8.at
              have hsv := sameV_view (now := now) (x := x) (y := y) hS.slice hO.slice hC.slice
              simp (disch := omega) [p2, p10, p14, p15, B8, hsv]
              refine VCmp_ok hP hL hvw (hv6.keep (s' := s8) ⟨by omega, fun n hn => k8.get n (by simp only; omega)⟩) hids hes hks fun s9 k9 => ?_
              simp (disch := omega)
              exact hq _
            · simp (disch := omega) [p2, p10, p14, p15, u1, u2, hB]
              refine View_ok (P := P.at now) hP (hL.at (by omega) (by omega)) hIu hDu fun v8 s8 k8 hv8 => ?_
              have n8 := k8.next
              simp only at n8
              have B8 := (k8.get s5.next (by simp only; omega)).trans hB
              have hvw := hv8.at
              have hsv := sameV_view (now := now) (x := x) (y := y) hS.slice hO.slice hC.slice
              simp (disch := omega) [p2, p10, p14, p15, B8, hsv]
              refine VCmp_ok hP hL hvw (hv6.keep (s' := s8) ⟨by omega, fun n hn => k8.get n (by simp only; omega)⟩) hids hes hks fun s9 k9 => ?_
              simp (disch := omega)
              exact hq _
        · simp (disch := omega)
          obtain ⟨o8, hc8, rfl⟩ := hI5.fixed 8 (.inl (by decide))
          exact ⟨fun q h1 h2 => by simp (disch := omega), q2, q10, P.now, by omega, by omega, hc8, rfl, 0, rfl, by omega⟩
      · simp (disch := omega) [q1, q10, q12, hlt, hlt2]
        refine View_ok hP hL hI4 hD fun v s5 k5 hv => ?_
        obtain ⟨zS, zO, zC, rows, ol, lC, x, y, hveq, hvx, hvy, hS, hrows, hR, hO, hOk, hol, hC, hlC⟩ := hv.ex
        subst hveq
        have n5 := k5.next
        have hI5 := hI4.keep k5
        have hD5 := hD.keep hI4 k5
        have l8 := hI5.ltn 8 (.inl (by decide))
        have l0 := hI5.ltn 0 (.inl (by decide))
        have ne08 := hI5.ne (.inl (by decide : 0 < 22)) (.inl (by decide : 8 < 22)) (by decide)
        have ge8 : s2.next ≤ P.nm 8 := hge _ (by rw [hI.fx 8 (.inl (by decide))]; rfl)
        have hn5 := hI5.const 0 (by decide)
        obtain ⟨cc, _, _, _, hrow0⟩ := hL.n
        rw [hrow0] at hn5
        simp (disch := omega) [q2, hS.cell.1, hS.cell.2, hO.cell.1, hO.cell.2, hC.cell.1, hC.cell.2]
        refine loop_rule (fun m ρ s' => s5.next < s'.next ∧ (∀ q, q < s5.next → q ≠ P.nm 8 → s'.heap.get q = s5.heap.get q) ∧ ρ 2 = .slice aB xs.length cB ∧ ρ 10 = P.p 0 ∧ ρ 14 = .pointer (some ⟨s5.next, 0, none⟩) ∧
          ∃ now : Int, 0 ≤ now ∧ now ≤ 4611686018427387904 ∧ s'.heap.get (P.nm 8) = some (.cells [.int .u64 now] none false) ∧ s'.heap.get s5.next = some (.cells (viewL now zS zO zC x y) none false) ∧ ∃ j : Nat, ρ 15 = .int .i64 j ∧ j ≤ 30 ∧ 30 - j ≤ m) ?_ 30 ?_
        · rintro m ρ s6 ⟨n6, f6, p2, p10, p14, now, hnow0, hnow1, hclk, hB, j, p15, hj, hm⟩
          have hI6 := hI5.retime (now := now) (s' := s6) (by omega) f6 hclk
          have hn6 := (f6 (P.nm 0) l0 ne08).trans hn5
          by_cases hgo : j < xs.length ∧ j < 30
          · have hlt : (j : Int) < xs.length := by omega
            have hlt2 : (j : Int) < 30 := by omega
            rcases hBs with h | ⟨B, rfl, hBl, hBg⟩
            · omega
            have gB5 : s5.heap.get B = _ := (k5.get B (by omega)).trans ((f4 B (by omega)).trans ((kk2.get B hBl).trans hBg))
            have gB := (f6 B (by omega) (by omega)).trans gB5
            have hx := hx0 xs[j] (List.getElem_mem hgo.1)
            have hgx : (xs.map (Value.int .u64))[j]? = some (.int .u64 xs[j]) := by simp [hgo.1]
            simp (disch := omega) [p2, p10, p15, hlt, hlt2, hn6, gB, hgx]
            refine Tick_ok hP hclk hnow0 hnow1 hx fun s7 nx7 fr7 ck7 => ?_
            simp only at nx7 fr7
            have hw : IntKind.i64.wrap ((j : Int) + 1) = j + 1 := w64 (by omega) (by omega)
            have gB7 := (fr7 B (by omega)).trans gB
            have hBB := (fr7 s5.next (by omega)).trans hB
            have hws : IntKind.u64.wrap (4611686018427387904 - now) = 4611686018427387904 - now := wu64 (by omega) (by omega)
            by_cases t3 : 4294967295 < xs[j]
            · have eE : tickE now xs[j] = 1 := by unfold tickE; rw [if_pos t3]
              have eN : tickN now xs[j] = now := by unfold tickN; rw [eE]; rfl
              rw [eN] at ck7
              rw [eE]
              simp (disch := omega) [p2, p10, p14, p15, gB7, hgx, hBB, t3]
              generalize hu : (St.mk _ _) = u
              have un : s6.next ≤ u.next := by rw [← hu]; simp only; omega
              have uB : u.heap.get s5.next = some (.cells (viewL (now) zS zO zC x y) none false) := by rw [← hu]; first | exact hBB | simp
              have uf : ∀ q, q < s5.next → q ≠ P.nm 8 → u.heap.get q = s5.heap.get q := fun q h1 h2 => by
                rw [← hu]
                first
                | (simp only; rw [fr7 q h2, f6 q h1 h2]; done)
                | (simp (disch := omega) [fr7 q h2, f6 q h1 h2]; done)
              have uc : u.heap.get (P.nm 8) = some (.cells [.int .u64 (now)] none false) := by rw [← hu]; first | exact ck7 | simp (disch := omega) [ck7]
              have hIu := hI5.retime (now := now) (s' := u) (by omega) uf uc
              have hDu : Dat (P.at (now)) ty4 u D := (hD5.move hI5 uf).at
              refine View_ok (P := P.at now) hP (hL.at (by omega) (by omega)) hIu hDu fun v8 s8 k8 hv8 => ?_
              obtain ⟨zS8, zO8, zC8, rows8, ol8, lC8, x8, y8, rfl, _⟩ := hv8.ex
              have n8 := k8.next
              have B8 := (k8.get s5.next (by omega)).trans uB
              simp (disch := omega) [p2, p10, p14, p15, B8, hw, Lay.at_now]
              exact ⟨m - 1, by omega, by omega, fun q h1 h2 => by rw [k8.get q (by omega), uf q h1 h2], now, by omega, by omega, (k8.get _ (by omega)).trans uc, rfl, j + 1, by simp, by omega, by omega⟩
            by_cases t4 : 4611686018427387904 - now < xs[j]
            · have eE : tickE now xs[j] = 7 := by unfold tickE; rw [if_neg t3, if_pos t4]
              have eN : tickN now xs[j] = now := by unfold tickN; rw [eE]; rfl
              rw [eN] at ck7
              rw [eE]
              simp (disch := omega) [p2, p10, p14, p15, gB7, hgx, hBB, t3, t4, hws]
              generalize hu : (St.mk _ _) = u
              have un : s6.next ≤ u.next := by rw [← hu]; simp only; omega
              have uB : u.heap.get s5.next = some (.cells (viewL (now) zS zO zC x y) none false) := by rw [← hu]; first | exact hBB | simp
              have uf : ∀ q, q < s5.next → q ≠ P.nm 8 → u.heap.get q = s5.heap.get q := fun q h1 h2 => by
                rw [← hu]
                first
                | (simp only; rw [fr7 q h2, f6 q h1 h2]; done)
                | (simp (disch := omega) [fr7 q h2, f6 q h1 h2]; done)
              have uc : u.heap.get (P.nm 8) = some (.cells [.int .u64 (now)] none false) := by rw [← hu]; first | exact ck7 | simp (disch := omega) [ck7]
              have hIu := hI5.retime (now := now) (s' := u) (by omega) uf uc
              have hDu : Dat (P.at (now)) ty4 u D := (hD5.move hI5 uf).at
              refine View_ok (P := P.at now) hP (hL.at (by omega) (by omega)) hIu hDu fun v8 s8 k8 hv8 => ?_
              obtain ⟨zS8, zO8, zC8, rows8, ol8, lC8, x8, y8, rfl, _⟩ := hv8.ex
              have n8 := k8.next
              have B8 := (k8.get s5.next (by omega)).trans uB
              simp (disch := omega) [p2, p10, p14, p15, B8, hw, Lay.at_now]
              exact ⟨m - 1, by omega, by omega, fun q h1 h2 => by rw [k8.get q (by omega), uf q h1 h2], now, by omega, by omega, (k8.get _ (by omega)).trans uc, rfl, j + 1, by simp, by omega, by omega⟩
            have hwa : IntKind.u64.wrap (now + xs[j]) = now + xs[j] := wu64 (by omega) (by omega)
            · have eE : tickE now xs[j] = 0 := by unfold tickE; rw [if_neg t3, if_neg t4]
              have eN : tickN now xs[j] = now + xs[j] := by unfold tickN; rw [eE]; rfl
              rw [eN] at ck7
              rw [eE]
              simp (disch := omega) [p2, p10, p14, p15, gB7, hgx, hBB, t3, t4, hws, hwa]
              generalize hu : (St.mk _ _) = u
              have un : s6.next ≤ u.next := by rw [← hu]; simp only; omega
              have uB : u.heap.get s5.next = some (.cells (viewL (now + xs[j]) zS zO zC x y) none false) := by rw [← hu]; first | exact hBB | simp
              have uf : ∀ q, q < s5.next → q ≠ P.nm 8 → u.heap.get q = s5.heap.get q := fun q h1 h2 => by
                rw [← hu]
                first
                | (simp only; rw [fr7 q h2, f6 q h1 h2]; done)
                | (simp (disch := omega) [fr7 q h2, f6 q h1 h2]; done)
              have uc : u.heap.get (P.nm 8) = some (.cells [.int .u64 (now + xs[j])] none false) := by rw [← hu]; first | exact ck7 | simp (disch := omega) [ck7]
              have hIu := hI5.retime (now := now + xs[j]) (s' := u) (by omega) uf uc
              have hDu : Dat (P.at (now + xs[j])) ty4 u D := (hD5.move hI5 uf).at
              refine View_ok (P := P.at (now + xs[j])) hP (hL.at (by omega) (by omega)) hIu hDu fun v8 s8 k8 hv8 => ?_
              obtain ⟨zS8, zO8, zC8, rows8, ol8, lC8, x8, y8, rfl, _⟩ := hv8.ex
              have n8 := k8.next
              have B8 := (k8.get s5.next (by omega)).trans uB
              simp (disch := omega) [p2, p10, p14, p15, B8, hw, Lay.at_now]
              exact ⟨m - 1, by omega, by omega, fun q h1 h2 => by rw [k8.get q (by omega), uf q h1 h2], now + xs[j], by omega, by omega, (k8.get _ (by omega)).trans uc, rfl, j + 1, by simp, by omega, by omega⟩
          · have hcase2 : ¬ (j : Int) < xs.length ∨ ((j : Int) < xs.length ∧ ¬ (j : Int) < 30) := by omega
            have hDu : Dat (P.at now) ty4 ⟨s6.heap, s6.next + 5⟩ D := (hD5.move (s' := ⟨s6.heap, s6.next + 5⟩) hI5 f6).at
            have hIu : Inv (P.at now) ty4 ⟨s6.heap, s6.next + 5⟩ := hI6.keep ⟨by simp only; omega, fun n hn => rfl⟩
            have hv6 : ViewIs P D (s4.next + 1) now s6 (.agg (viewL now zS zO zC x y).toArray) := (hv.move (s' := s6) (by omega) (fun q h1 h2 => f6 q h2 (by have := hI4.ltn 8 (.inl (by decide)); omega))).retime
            have hids : ∀ m, m < P.mu → (D.ids m).length = P.sl := fun m hm => (hD.slots m hm).2
            have hes : D.es.length ≤ 64 := Nat.le_trans hD.map.len hL.ob1
            have hks : D.ks.length ≤ 64 := Nat.le_trans hD.klen hL.calls1
            rcases hcase2 with u1 | ⟨u1, u2⟩
            · simp (disch := omega) [p2, p10, p14, p15, u1, hB]
              refine View_ok (P := P.at now) hP (hL.at (by omega) (by omega)) hIu hDu fun v8 s8 k8 hv8 => ?_
              have n8 := k8.next
              simp only at n8
              have B8 := (k8.get s5.next (by simp only; omega)).trans hB
              have hvw := hv8.at
              have hsv := sameV_view (now := now) (x := x) (y := y) hS.slice hO.slice hC.slice
              simp (disch := omega) [p2, p10, p14, p15, B8, hsv]
              refine VCmp_ok hP hL hvw (hv6.keep (s' := s8) ⟨by omega, fun n hn => k8.get n (by simp only; omega)⟩) hids hes hks fun s9 k9 => ?_
              simp (disch := omega)
              exact hq _
            · simp (disch := omega) [p2, p10, p14, p15, u1, u2, hB]
              refine View_ok (P := P.at now) hP (hL.at (by omega) (by omega)) hIu hDu fun v8 s8 k8 hv8 => ?_
              have n8 := k8.next
              simp only at n8
              have B8 := (k8.get s5.next (by simp only; omega)).trans hB
              have hvw := hv8.at
              have hsv := sameV_view (now := now) (x := x) (y := y) hS.slice hO.slice hC.slice
              simp (disch := omega) [p2, p10, p14, p15, B8, hsv]
              refine VCmp_ok hP hL hvw (hv6.keep (s' := s8) ⟨by omega, fun n hn => k8.get n (by simp only; omega)⟩) hids hes hks fun s9 k9 => ?_
              simp (disch := omega)
              exact hq _
        · simp (disch := omega)
          obtain ⟨o8, hc8, rfl⟩ := hI5.fixed 8 (.inl (by decide))
          exact ⟨fun q h1 h2 => by simp (disch := omega), q2, q10, P.now, by omega, by omega, hc8, rfl, 0, rfl, by omega⟩
  · simp (disch := omega)
    exact ⟨⟨ty, hI.keep ⟨by simp only; omega, fun n hn => rfl⟩, no3⟩, f3, 0, rfl, by omega⟩

end Go.Sh
