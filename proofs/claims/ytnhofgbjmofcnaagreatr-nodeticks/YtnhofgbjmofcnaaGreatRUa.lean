/-
  NodeTicks: a call is begun. NodeTicks: a call is awaited; a remote reference lapses. NodeTicks: what a node asks itself of references; a slot is filled. NodeTicks: what is done with an object of the node's own. NodeTicks: a node begins and awaits calls. NodeTicks: what a mutator does.
-/
import Derived.Test.YtnhofgbjmofcnaaGreatRTb

namespace Go.Sh
open Go
open Go.Proofs

variable {prim : PrimF} {s : St} {Q : Value → St → Prop} {P : Lay} {ty : Nat → Ty} {ρ : Rho}

/-- Two rows without cells are taken over. -/
theorem Inv.own2 (hI : Inv P ty s) {s' : St} (hk : Keep s s') {a b : Nat} (ha : s.next ≤ a) (hb : s.next ≤ b) (ha' : a < s'.next) (hb' : b < s'.next) (ga : s'.heap.get a = some (.cells [] none false)) (gb : s'.heap.get b = some (.cells [] none false)) :
    ∃ ty', Inv P ty' s' ∧ Grow ty s ty' s' ∧ ty' a = .refs 0 ∧ ty' b = .refs 0 := by
  let ty' : Nat → Ty := fun m => if m = a ∨ m = b then .refs 0 else ty m
  have ta : ty' a = .refs 0 := by simp [ty']
  have tb : ty' b = .refs 0 := by simp [ty']
  have hlow : ∀ m, m < s.next → ty' m = ty m := fun m hm => by simp only [ty']; rw [if_neg (by omega)]
  obtain ⟨h1, h2⟩ := hI.extend (ty' := ty') (s' := s') (fun m hm => hlow m (hI.lt m hm)) hk.next (fun m h1 h2 => by
    have hm : m = a ∨ m = b := by
      rcases Classical.em (m = a ∨ m = b) with h | h
      · exact h
      · simp only [ty', if_neg h] at h1; rw [h1] at h2; cases h2
    have ht : ty' m = .refs 0 := by simp only [ty', if_pos hm]
    rw [ht]
    refine ⟨fun i h => (by cases h), by omega, by omega, fun _ => ?_⟩
    rcases hm with rfl | rfl
    · exact ⟨_, ga, [], rfl, rfl⟩
    · exact ⟨_, gb, [], rfl, rfl⟩) (fun m hm _ => .inl (hk.get m hm)) (fun m hm _ => hk.get m hm)
  exact ⟨ty', h1, h2, ta, tb⟩

theorem cput_ok (hP : POnly prim) (hL : LayOk P) (hI : Inv P ty s) {r : CR} (ha : ty r.a = .refs 0) (hb : ty r.b = .refs 0)
    (hq : ∀ v ty' s', Inv P ty' s' → Grow ty s ty' s' → Q v s') :
    WC (tE prim) 141 [P.p 13, .agg (CR.cells P r).toArray] s Q := by
  refine WC_fn (fm141 prim (hP.no _)) rfl ?_
  have h13 := hI.const 13 (by decide)
  have l13 := hI.ltn 13 (.inl (by decide))
  have c0 : (CR.cells P r)[0]? = some (.int .i64 r.to) := rfl
  have c1 : (CR.cells P r)[1]? = some (.int .u64 r.num) := rfl
  generalize hcr : CR.cells P r = cr at c0 c1
  have ct : takeN 15 cr = some cr := by rw [← hcr]; rfl
  simp (disch := omega) [m141, h13, hL.ctq, c0, c1, ct]
  refine ckey_ok hP fun k s1 k1 => ?_
  have n1 := k1.next
  simp only at n1
  have kk : Keep s s1 := ⟨by omega, fun n hn => by rw [k1.get n (by simp only; omega)]; simp (disch := omega)⟩
  have g1 := k1.get s.next (by simp only; omega)
  simp (disch := omega) at g1
  have hI1 := hI.keep kk
  have h13' := hI1.const 13 (by decide)
  have hsame : sameV (.agg cr.toArray) (.agg cr.toArray) = true := by rw [← hcr]; simp [sameV, sameN, sameL, CR.cells, sameA, nat_beq_eq]
  simp (disch := omega) [h13', hL.ctq, g1, hsame, ct]
  rw [← hcr]
  refine Put_ok hP hL hI1 ha hb fun b ty' s2 hI2 hG2 => ?_
  simp (disch := omega)
  exact hq _ _ _ hI2 ((Grow.of_keep kk).trans hG2)

theorem Begin_ok (hP : POnly prim) (hL : LayOk P) (hN : P.now = P.born) (hI : Inv P ty s) {to op field value : Int}
    (hq : ∀ num e ty' s', Inv P ty' s' → Grow ty s ty' s' → Q (.tuple #[.int .u64 num, .int .i64 e]) s') :
    WC (tE prim) 122 [P.p 13, .int .i64 to, .int .i64 op, .int .i64 field, idV 0 0, .int .u64 value, .slice none 0 0, .int .u64 P.now] s Q := by
  rw [hN]
  refine WC_fn (fm122 prim (hP.no _)) rfl ?_
  simp (disch := omega) [m122]
  have k0 : Keep s ⟨s.heap.set s.next (.cells [.int .i64 0, .int .u64 0] none false), s.next + 1⟩ := ⟨by simp only; omega, fun n hn => by simp (disch := omega)⟩
  refine twin_ok hP (.inl rfl) (.inl rfl) rfl rfl rfl rfl fun a b s1 k1 ha hb hab ha' hb' ga gb => ?_
  have n1 := k1.next
  simp only at n1 ha hb
  have kk := k0.trans k1
  have g12 := k1.get s.next (by simp only; omega)
  simp (disch := omega) at g12
  obtain ⟨ty1, hI1, hG1, ta, tb⟩ := hI.own2 kk (by omega) (by omega) ha' hb' ga gb
  have l13 := hI.ltn 13 (.inl (by decide))
  have l14 := hI.ltn 14 (.inl (by decide))
  have l15 := hI.ltn 15 (.inl (by decide))
  have h13 := hI1.const 13 (by decide)
  have k2 : Keep s1 ⟨(s1.heap.set s1.next (.cells [Value.int IntKind.i64 0, Value.int IntKind.u64 0, Value.int IntKind.i64 0, Value.int IntKind.i64 0, Value.int IntKind.i64 0, Value.int IntKind.u64 0, Value.slice none 0 0, Value.int IntKind.u64 0,
    Value.int IntKind.i64 0, Value.int IntKind.i64 0, Value.slice none 0 0, Value.int IntKind.u64 0, Value.int IntKind.u64 0, Value.int IntKind.u64 0, Value.int IntKind.u64 0] none false)).set s1.next (.cells [Value.int IntKind.i64 to, Value.int IntKind.u64 1, Value.int IntKind.i64 op, Value.int IntKind.i64 field, Value.int IntKind.i64 0, Value.int IntKind.u64 0, Value.slice (some { block := a, off := 0 }) 0 0, Value.int IntKind.u64 value, Value.int IntKind.i64 1, Value.int IntKind.i64 0, Value.slice (some { block := b, off := 0 }) 0 0, Value.int IntKind.u64 0, Value.int IntKind.u64 P.born, Value.int IntKind.u64 0, Value.int IntKind.u64 P.born] none false), s1.next + 1⟩ :=
      ⟨by simp only; omega, fun n hn => by simp (disch := omega)⟩
  by_cases hto : (P.nd : Int) < to
  · simp (disch := omega) [g12, h13, hL.ctn, hto]
    exact hq _ _ _ _ (hI1.keep k2) (hG1.trans (.of_keep k2))
  have hI2 := hI1.keep k2
  simp (disch := omega) [g12, h13, hL.ctn, hto]
  refine asks_ok (ty := ty1) hP hL hI2 (.inr ⟨a, [], none, false, rfl, by simp only; omega, by simp (disch := omega) [ga]⟩) rfl rfl rfl fun a' s3 k3 ha3 ha3' ga3 => ?_
  simp (disch := omega)
  refine Right_ok hP fun ok s4 k4 hok => ?_
  have kA := k3.trans k4
  have nA := kA.next
  simp only at nA
  have hI4 := hI2.keep kA
  have g12' := kA.get s.next (by simp only; omega)
  have g18' := kA.get s1.next (by simp only; omega)
  simp (disch := omega) [g12] at g12' g18'
  have kB : Keep s1 s4 := k2.trans kA
  have hG4 := hG1.trans (.of_keep kB)
  cases ok with
  | false =>
    simp (disch := omega)
    exact hq _ _ _ _ hI4 hG4
  | true =>
    have hok := hok rfl
    have h13 := hI4.const 13 (by decide)
    obtain ⟨n, kv, vv, hT⟩ := hI4.tab
    obtain ⟨w, hw⟩ := hL.ctw
    have k5 : Keep s4 ⟨s4.heap, s4.next + 33⟩ := ⟨by simp only; omega, fun n hn => rfl⟩
    have hT5 : TabAt P ty1 ⟨s4.heap, s4.next + 33⟩ n kv vv := by
      cases hT with
      | nil h => exact .nil h
      | tab n ka va hn h tk tv => exact .tab n ka va hn h tk tv
    have hI5 := hI4.keep k5
    simp (disch := omega) [h13, hL.ctq, hL.ctc]
    refine Len_ok hP hT5 ?_
    by_cases hfull : (P.calls : Int) ≤ n
    · simp (disch := omega) [h13, hL.ctq, hL.ctc, hfull]
      exact hq _ _ _ _ hI5 (hG4.trans (.of_keep k5))
    · obtain ⟨xs, hlen, hlt⟩ := hI5.latest
      have htn : to.toNat < xs.length := by omega
      simp only at hlt
      simp (disch := omega) [h13, hL.ctq, hL.ctc, hL.ctl, hw, hfull, hlt]
      refine Floor_ok hP hL hI5 fun z s6 k6 => ?_
      have n6 := k6.next
      simp only at n6
      have hI6 := hI5.keep k6
      have hG6 := (hG4.trans (.of_keep k5)).trans (.of_keep k6)
      have h13 := hI6.const 13 (by decide)
      have hlt6 : s6.heap.get (P.nm 15) = some (.cells (xs.map (.int .u64)) none false) := by rw [k6.get _ (by simp only; omega)]; exact hlt
      have g12 : s6.heap.get s.next = _ := (k6.get s.next (by simp only; omega)).trans g12'
      have g18 : s6.heap.get s1.next = _ := (k6.get s1.next (by simp only; omega)).trans g18'
      have f15 := hI6.fx 15 (.inl (by decide))
      by_cases hw2 : IntKind.u64.wrap w ≤ IntKind.u64.wrap (IntKind.u64.wrap (xs[to.toNat] + 1) - z)
      · simp (disch := omega) [h13, hL.ctl, hw, hlt6, hw2]
        exact hq _ _ _ _ hI6 hG6
      by_cases hmx : xs[to.toNat] = 72057594037927935
      · rw [hmx, show (72057594037927935 : Int) + 1 = 72057594037927936 from rfl] at hw2
        simp (disch := omega) [h13, hL.ctl, hw, hlt6, hw2, hmx]
        exact hq _ _ _ _ hI6 hG6
      have ne13 := hI6.ne (.inl (by decide : 13 < 22)) (.inl (by decide : 15 < 22)) (by decide)
      have l15' := hI6.ltn 15 (.inl (by decide))
      have hset := setN_map (f := .int .u64) (xs := xs) (off := to.toNat) (y := IntKind.u64.wrap (xs[to.toNat] + 1)) htn
      have hget : ((List.map (Value.int IntKind.u64) xs).set to.toNat (Value.int IntKind.u64 (IntKind.u64.wrap (xs[to.toNat] + 1))))[to.toNat]? = some (Value.int IntKind.u64 (IntKind.u64.wrap (xs[to.toNat] + 1))) := by simp [htn]
      have t1a : ty1 a = .refs 0 := ta
      simp (disch := omega) [h13, hL.ctl, hw, hlt6, hw2, hmx, hset, g18, hget]
      have kC : Keep s1 s6 := (kB.trans k5).trans k6
      have hno : (ty1 s1.next).isNo = true := by
        cases h : (ty1 s1.next).isNo with
        | true => rfl
        | false => exact absurd (hI1.lt _ h) (by omega)
      let r : CR := ⟨to, IntKind.u64.wrap (xs[to.toNat] + 1), op, field, 0, 0, a, value, b, P.born⟩
      have l151 : P.nm 15 < s1.next := hI1.ltn 15 (.inl (by decide))
      have hs := hI1.set (s' := ⟨(s6.heap.set (P.nm 15) (.cells ((List.map (Value.int IntKind.u64) xs).set to.toNat (Value.int IntKind.u64 (IntKind.u64.wrap (xs[to.toNat] + 1)))) none false)).set s1.next (.cells (CR.cells P r) none false), s6.next⟩) (n0 := P.nm 15)
          (o := .cells ((xs.set to.toNat (IntKind.u64.wrap (xs[to.toNat] + 1))).map (.int .u64)) none false)
          (by rw [hI1.fx 15 (.inl (by decide))]; rfl) (by rw [hI1.fx 15 (.inl (by decide))]; exact ⟨_, by simpa using hlen, rfl⟩) (by simp only; omega) (fun n hn hne => by simp (disch := omega) [kC.get n hn]) (by simp (disch := omega))
      refine cput_ok (r := r) hP hL hs.1 ta tb fun v ty2 s8 hI8 hG8 => ?_
      have g8 := (hG8.get s1.next (by simp only; omega) hno).2
      simp (disch := omega) [r, CR.cells] at g8
      simp (disch := omega) [g8]
      exact hq _ _ _ _ hI8 ((hG1.trans hs.2).trans hG8)

end Go.Sh

namespace Go.Sh
open Go
open Go.Proofs

variable {prim : PrimF} {s : St} {Q : Value → St → Prop} {P : Lay} {ty : Nat → Ty} {ρ : Rho}

abbrev zeroCall : List Value := [Value.int IntKind.i64 0, Value.int IntKind.u64 0, Value.int IntKind.i64 0, Value.int IntKind.i64 0, Value.int IntKind.i64 0, Value.int IntKind.u64 0, Value.slice none 0 0, Value.int IntKind.u64 0,
    Value.int IntKind.i64 0, Value.int IntKind.i64 0, Value.slice none 0 0, Value.int IntKind.u64 0, Value.int IntKind.u64 0, Value.int IntKind.u64 0, Value.int IntKind.u64 0]

theorem TGet_ok (hP : POnly prim) (hL : LayOk P) (hI : Inv P ty s) {k : Int}
    (hn : ∀ s', Keep s s' → Q (.tuple #[.agg zeroCall.toArray, .bool false]) s') (hy : ∀ r s', Keep s s' → Q (.tuple #[.agg (CR.cells P r).toArray, .bool true]) s') :
    WC (tE prim) 92 [P.p 14, .int .u64 k] s Q := by
  refine WC_fn (fm92 prim (hP.no _)) rfl ?_
  have l14 := hI.ltn 14 (.inl (by decide))
  have k1 : Keep s ⟨s.heap.set s.next (.cells zeroCall none false), s.next + 1⟩ := ⟨by simp only; omega, fun n hn => by simp (disch := omega)⟩
  have hI1 := hI.keep k1
  obtain ⟨n, kv, vv, hT⟩ := hI1.tab
  obtain ⟨hr, hn', a1, c1, b1, d1, e1, e2⟩ := hT.row
  simp (disch := omega) at hr
  simp (disch := omega) [m92, hr]
  refine tsearch_ok hP hL hI1 hT fun i ok h0 h1 h2 => ?_
  cases ok with
  | false =>
    simp (disch := omega)
    exact hn _ ⟨by first | omega | (simp only; omega), fun n hn => by simp (disch := omega)⟩
  | true =>
    have hin := h2 rfl
    cases hT with
    | nil h => omega
    | tab n ka va hn h tk tv =>
      obtain ⟨xs, h3, h4, h5, h6⟩ := hI1.cvals tv
      have hi : i.toNat < xs.length := by omega
      have hg := crs_get (P := P) (xs := xs) (i := i.toNat) (r := xs[i.toNat]) (by simp [hi])
      have lva := hI.lt va (by rw [tv]; rfl)
      simp (disch := omega) at h5
      have hset : ∀ r : CR, setN zeroCall 0 (CR.cells P r) = some (CR.cells P r) := fun r => rfl
      simp (disch := omega) [hr, h5, hg, hset]
      exact hy _ _ ⟨by first | omega | (simp only; omega), fun n hn => by simp (disch := omega)⟩

theorem cget_ok (hP : POnly prim) (hL : LayOk P) (hI : Inv P ty s) {to num : Int}
    (hn : ∀ s', Keep s s' → Q (.tuple #[.agg zeroCall.toArray, .bool false]) s') (hy : ∀ r s', Keep s s' → Q (.tuple #[.agg (CR.cells P r).toArray, .bool true]) s') :
    WC (tE prim) 137 [P.p 13, .int .i64 to, .int .u64 num] s Q := by
  refine WC_fn (fm137 prim (hP.no _)) rfl ?_
  have l13 := hI.ltn 13 (.inl (by decide))
  have k1 : Keep s ⟨s.heap.set s.next (.cells zeroCall none false), s.next + 1⟩ := ⟨by simp only; omega, fun n hn => by simp (disch := omega)⟩
  have hI1 := hI.keep k1
  have h13 := hI1.const 13 (by decide)
  have hset : ∀ r : CR, setN zeroCall 0 (CR.cells P r) = some (CR.cells P r) := fun r => rfl
  simp (disch := omega) [m137]
  refine other_ok hP hL hI1 fun r hr => ?_
  cases r with
  | false =>
    simp (disch := omega)
    exact hn _ ⟨by first | omega | (simp only; omega), fun n hn => by simp (disch := omega)⟩
  | true =>
    by_cases hbig : 72057594037927935 < num
    · simp (disch := omega) [hbig]
      exact hn _ ⟨by first | omega | (simp only; omega), fun n hn => by simp (disch := omega)⟩
    simp (disch := omega) at h13
    simp (disch := omega) [hbig, h13, hL.ctq]
    refine ckey_ok hP fun k s2 k2 => ?_
    have n2 := k2.next
    simp only at n2
    have g2 := k2.get s.next (by simp only; omega)
    simp (disch := omega) at g2
    have kk : Keep s s2 := ⟨by omega, fun n hn => by rw [k2.get n (by simp only; omega)]; simp (disch := omega)⟩
    have hI2 := hI.keep kk
    have h13' := hI2.const 13 (by decide)
    simp (disch := omega) [h13', hL.ctq]
    refine TGet_ok hP hL hI2 (fun s3 k3 => ?_) (fun r s3 k3 => ?_)
    · have g3 := (k3.get s.next (by omega)).trans g2
      have n3 := k3.next
      have k23 := kk.trans k3
      simp (disch := omega) [g3]
      exact hn _ ⟨by first | omega | (simp only; omega), fun n hn => by simp (disch := omega) [k23.get n hn]⟩
    · have g3 := (k3.get s.next (by omega)).trans g2
      have n3 := k3.next
      have k23 := kk.trans k3
      simp (disch := omega) [g3, hset]
      exact hy _ _ ⟨by first | omega | (simp only; omega), fun n hn => by simp (disch := omega) [k23.get n hn]⟩

theorem Past_ok (hP : POnly prim) {t p : Int} (hp : 1 ≤ p) (hq : Q (.bool false) s) : WC (tE prim) 140 [.int .u64 t, .int .u64 p, .int .u64 t] s Q := by
  refine WC_fn (fm140 prim (hP.no _)) rfl ?_
  have hw : IntKind.u64.wrap 0 = 0 := by decide
  have hp' : ¬ p ≤ 0 := by omega
  simp (disch := omega) [m140, hw, hp']
  exact hq

theorem Await_ok (hP : POnly prim) (hL : LayOk P) (hN : P.now = P.born) (hI : Inv P ty s) {to num : Int} (hq : ∀ e s', Keep s s' → e ≠ 0 → Q (.tuple #[.agg zeroCall.toArray, .bool false, .int .i64 e]) s') :
    WC (tE prim) 119 [P.p 13, .int .i64 to, .int .u64 num, .int .u64 P.now] s Q := by
  refine WC_fn (fm119 prim (hP.no _)) rfl ?_
  have l13 := hI.ltn 13 (.inl (by decide))
  have k1 : Keep s ⟨s.heap.set s.next (.cells zeroCall none false), s.next + 1⟩ := ⟨by simp only; omega, fun n hn => by simp (disch := omega)⟩
  have hI1 := hI.keep k1
  have hset : ∀ r : CR, setN zeroCall 0 (CR.cells P r) = some (CR.cells P r) := fun r => rfl
  obtain ⟨p, hp, hctp⟩ := hL.ctp
  simp (disch := omega) [m119]
  refine cget_ok hP hL hI1 (fun s2 k2 => ?_) (fun r s2 k2 => ?_)
  · have n2 := k2.next
    simp only at n2
    have g2 := k2.get s.next (by simp only; omega)
    simp (disch := omega) at g2
    have kk := k1.trans k2
    simp (disch := omega) [g2]
    exact hq _ _ ⟨by first | omega | (simp only; omega), fun n hn => by simp (disch := omega) [kk.get n hn]⟩ (by decide)
  · have n2 := k2.next
    simp only at n2
    have g2 := k2.get s.next (by simp only; omega)
    simp (disch := omega) at g2
    have kk := k1.trans k2
    have hI2 := hI.keep kk
    have h13 := hI2.const 13 (by decide)
    have c8 : (CR.cells P r)[8]? = some (.int .i64 1) := rfl
    have c14 : (CR.cells P r)[14]? = some (.int .u64 P.now) := by rw [hN]; rfl
    simp (disch := omega) [g2, hset, c8, c14, h13, hctp]
    refine Past_ok hP hp ?_
    simp (disch := omega) [g2]
    exact hq _ _ ⟨by first | omega | (simp only; omega), fun n hn => by simp (disch := omega) [kk.get n hn]⟩ (by decide)

end Go.Sh

namespace Go.Sh
open Go
open Go.Proofs

variable {prim : PrimF} {s : St} {Q : Value → St → Prop} {P : Lay} {ty : Nat → Ty} {ρ : Rho}

abbrev zeroStub : Value := .agg #[.int .i64 0, .int .u64 0, .int .i64 0, .int .u64 0, .int .i64 0, .int .u64 0, .int .u64 0, .int .u64 0, .int .i64 0]

theorem Now_ok (hP : POnly prim) (hI : Inv P ty s) (hq : Q (.int .u64 P.now) s) : WC (tE prim) 33 [P.p 8] s Q := by
  refine WC_fn (fm33 prim (hP.no _)) rfl ?_
  obtain ⟨o, h8, rfl⟩ := hI.fixed 8 (.inl (by decide))
  simp (disch := omega) [m33, h8]
  exact hq

theorem SGet_ok (hP : POnly prim) (hL : LayOk P) (hI : Inv P ty s) {k : Int} (hq : ∀ s', Keep s s' → Q (.tuple #[zeroStub, .bool false]) s') : WC (tE prim) 88 [P.p 12, .int .u64 k] s Q := by
  refine WC_fn (fm88 prim (hP.no _)) rfl ?_
  have h12 := hI.const 12 (by decide)
  have l12 := hI.ltn 12 (.inl (by decide))
  obtain ⟨x, hx⟩ := hL.sq
  rw [hx] at h12
  simp (disch := omega) [m88, h12]
  refine search_ok hP (xs := []) (by omega) (.inl rfl) fun i ok h0 h1 h2 => ?_
  cases ok with
  | true => exact absurd (h2 rfl).1 (by omega)
  | false =>
    simp (disch := omega)
    exact hq _ ⟨by first | omega | (simp only; omega), fun n hn => by simp (disch := omega)⟩

theorem StubGet_ok (hP : POnly prim) (hL : LayOk P) (hI : Inv P ty s) {a b : Int} (hq : ∀ s', Keep s s' → Q (.tuple #[zeroStub, .bool false]) s') : WC (tE prim) 132 [P.p 11, idV a b] s Q := by
  refine WC_fn (fm132 prim (hP.no _)) rfl ?_
  have h11 := hI.const 11 (by decide)
  have l11 := hI.ltn 11 (.inl (by decide))
  simp (disch := omega) [m132, h11, hL.st]
  refine key_ok hP fun k s1 k1 => ?_
  have n1 := k1.next
  simp only at n1
  have kk : Keep s s1 := ⟨by omega, fun n hn => by rw [k1.get n (by simp only; omega)]; simp (disch := omega)⟩
  have g3 := k1.get s.next (by simp only; omega)
  have g4 := k1.get (s.next + 1) (by simp only; omega)
  simp (disch := omega) at g3 g4
  have hI1 := hI.keep kk
  have h11' := hI1.const 11 (by decide)
  simp (disch := omega) [h11', hL.st]
  refine SGet_ok hP hL hI1 fun s2 k2 => ?_
  have n2 := k2.next
  have g3' := (k2.get s.next (by omega)).trans g3
  have g4' := (k2.get (s.next + 1) (by omega)).trans g4
  have k12 := kk.trans k2
  simp (disch := omega) [g3', g4']
  exact hq _ ⟨by first | omega | (simp only; omega), fun n hn => by simp (disch := omega) [k12.get n hn]⟩

theorem SState_ok (hP : POnly prim) (hL : LayOk P) (hI : Inv P ty s) {a b x : Int} (hq : ∀ s', Keep s s' → Q (.int .i64 0) s') : WC (tE prim) 112 [P.p 11, idV a b, .int .u64 x] s Q := by
  refine WC_fn (fm112 prim (hP.no _)) rfl ?_
  simp (disch := omega) [m112]
  have k1 : Keep s ⟨s.heap.set s.next (.cells [.int .i64 a, .int .u64 b] none false), s.next + 1⟩ := ⟨by simp only; omega, fun n hn => by simp (disch := omega)⟩
  refine StubGet_ok hP hL (hI.keep k1) fun s2 k2 => ?_
  have n2 := k2.next
  simp only at n2
  have k12 := k1.trans k2
  simp (disch := omega)
  exact hq _ ⟨by first | omega | (simp only; omega), fun n hn => by simp (disch := omega) [k12.get n hn]⟩

def lapsedB (a b : Int) : Bool := !(decide (a = 0) && decide (b = 0)) && !decide (a = 1)

theorem lapsed_ok (hP : POnly prim) (hL : LayOk P) (hI : Inv P ty s) {a b : Int} (hq : ∀ s', Keep s s' → Q (.bool (lapsedB a b)) s') : WC (tE prim) 64 [P.p 0, idV a b] s Q := by
  refine WC_fn (fm64 prim (hP.no _)) rfl ?_
  obtain ⟨c, hc0, hc1, hc2, h0⟩ := hL.n
  simp (disch := omega) [m64]
  refine none_ok hP fun s1 k1 => ?_
  have n1 := k1.next
  simp only at n1
  have kk : Keep s s1 := ⟨by omega, fun n hn => by rw [k1.get n (by simp only; omega)]; simp (disch := omega)⟩
  have g3 := k1.get s.next (by simp only; omega)
  simp (disch := omega) at g3
  have hI1 := hI.keep kk
  have hn := hI1.const 0 (by decide)
  rw [h0] at hn
  have ln := hI1.ltn 0 (.inl (by decide))
  by_cases hz : a = 0 ∧ b = 0
  · obtain ⟨rfl, rfl⟩ := hz
    simp (disch := omega) [g3]
    exact hq _ kk
  have hz' : (decide (a = 0) && decide (b = 0)) = false := by
    rw [Bool.and_eq_false_iff]
    by_cases h : a = 0
    · right; simpa using fun e => hz ⟨h, e⟩
    · left; simpa using h
  have hlb : lapsedB a b = !decide (a = 1) := by unfold lapsedB; rw [hz']; rfl
  simp (disch := omega) [g3, hz']
  refine local_ok hP (row := _) (x := 1) ln hn rfl fun s2 k2 => ?_
  have n2 := k2.next
  have g3' := (k2.get s.next (by omega)).trans g3
  have hI2 := hI1.keep k2
  have hn2 := hI2.const 0 (by decide)
  rw [h0] at hn2
  by_cases h1 : a = 1
  · simp (disch := omega) [h1]
    rw [hlb] at hq
    simp [h1] at hq
    exact hq _ (kk.trans k2)
  · simp (disch := omega) [h1, hn2, g3']
    refine Now_ok hP hI2 ?_
    simp (disch := omega) [hn2, g3']
    refine SState_ok hP hL hI2 fun s3 k3 => ?_
    simp (disch := omega)
    rw [hlb] at hq
    simp [h1] at hq
    exact hq _ ((kk.trans k2).trans k3)

abbrev ansV (e n k v t u : Int) : Value := .agg #[.int .i64 e, .int .i64 n, .int .u64 k, .int .u64 v, .int .i64 t, .int .u64 u]

theorem hold_ok (hP : POnly prim) (hL : LayOk P) (hI : Inv P ty s) {t a b : Int} (hq : ∀ s', Inv P ty s' → Grow ty s ty s' → Q (ansV 0 a b 0 0 0) s') :
    WC (tE prim) 62 [P.p 0, .int .i64 0, .int .i64 t, idV a b] s Q := by
  refine WC_fn (fm62 prim (hP.no _)) rfl ?_
  obtain ⟨c, hc0, hc1, hc2, h0⟩ := hL.n
  have hn := hI.const 0 (by decide)
  rw [h0] at hn
  have ln := hI.ltn 0 (.inl (by decide))
  simp (disch := omega) [m62, hn]
  have k1 : Keep s ⟨(s.heap.set s.next (.cells [.int .i64 a, .int .u64 b] none false)).set (s.next + 1) (.cells [.int .i64 0, .int .i64 0, .int .u64 0, .int .u64 0, .int .i64 0, .int .u64 0] none false), s.next + 1 + 1 + 8⟩ := ⟨by simp only; omega, fun n hn => by simp (disch := omega)⟩
  have hI1 := hI.keep k1
  have no1 : ∀ m, s.next ≤ m → (ty m).isNo = true := fun m hm => by
    cases h : (ty m).isNo with
    | true => rfl
    | false => exact absurd (hI.lt _ h) (by omega)
  refine Set_ok hP hL hI1 fun r s2 hI2 hG2 => ?_
  have n2 := hG2.next
  simp only at n2
  have g1 := (hG2.get s.next (by simp only; omega) (no1 _ (by omega))).2
  have g2 := (hG2.get (s.next + 1) (by simp only; omega) (no1 _ (by omega))).2
  simp (disch := omega) at g1 g2
  simp (disch := omega) [g1, g2]
  have hG := (Grow.of_keep (ty := ty) k1).trans hG2
  refine hq _ ?_ ?_
  · exact ⟨fun m hm => hI2.lt m hm, hI2.fx, hI2.un, fun m hm => by
      obtain ⟨o, h1, h2⟩ := hI2.obj m hm
      have : m ≠ s.next + 1 := fun e => by rw [e] at hm; have := live_isNo hm; rw [no1 _ (by omega)] at this; cases this
      exact ⟨o, by simp (disch := omega) [h1], h2⟩⟩
  · exact ⟨by simp only; omega, fun m hm hno => ⟨hno, by have := (hG.get m hm hno).2; simp (disch := omega) [this]⟩⟩

end Go.Sh

namespace Go.Sh
open Go
open Go.Proofs

variable {prim : PrimF} {s : St} {Q : Value → St → Prop} {P : Lay} {ty : Nat → Ty} {ρ : Rho}

theorem Inv.noge (hI : Inv P ty s) {m : Nat} (h : s.next ≤ m) : (ty m).isNo = true := by
  cases e : (ty m).isNo with
  | true => rfl
  | false => exact absurd (hI.lt _ e) (by omega)

/-- What belongs to nobody is written. -/
theorem Inv.junk {ty' : Nat → Ty} {s2 s3 : St} (hI : Inv P ty' s2) (hG : Grow ty s ty' s2) (J : Nat → Prop) (hJ : ∀ m, J m → s.next ≤ m ∧ (ty' m).isNo = true) (hn : s2.next ≤ s3.next) (hg : ∀ m, m < s2.next → ¬ J m → s3.heap.get m = s2.heap.get m) :
    Inv P ty' s3 ∧ Grow ty s ty' s3 := by
  refine ⟨⟨fun m hm => Nat.lt_of_lt_of_le (hI.lt m hm) hn, hI.fx, hI.un, fun m hm => ?_⟩, Nat.le_trans hG.next hn, fun m hm hno => ?_⟩
  · rw [hg m (hI.lt m (live_isNo hm)) (fun h => by have := (hJ m h).2; rw [live_isNo hm] at this; cases this)]
    exact hI.obj m hm
  · obtain ⟨h1, h2⟩ := hG.get m hm hno
    exact ⟨h1, by rw [hg m (Nat.lt_of_lt_of_le hm hG.next) (fun h => by have := (hJ m h).1; omega), h2]⟩

abbrev opV (k a b f r v t val num : Int) : Value := .agg #[.int .i64 k, .int .i64 a, .int .i64 b, .int .i64 f, .int .i64 r, .int .i64 v, .int .i64 t, .int .u64 val, .int .u64 num]
abbrev opL (k a b f r v t val num : Int) : List Value := [.int .i64 k, .int .i64 a, .int .i64 b, .int .i64 f, .int .i64 r, .int .i64 v, .int .i64 t, .int .u64 val, .int .u64 num]
abbrev ansL (e n k v t u : Int) : List Value := [.int .i64 e, .int .i64 n, .int .u64 k, .int .u64 v, .int .i64 t, .int .u64 u]
abbrev idL (a b : Int) : List Value := [.int .i64 a, .int .u64 b]

theorem Inv.fin1 {ty' : Nat → Ty} {s2 : St} (hI : Inv P ty' s2) (hG : Grow ty s ty' s2) {w nx : Nat} {o : AObj} (hw : s.next ≤ w) (hno : (ty' w).isNo = true) (hnx : s2.next ≤ nx) :
    Inv P ty' ⟨s2.heap.set w o, nx⟩ ∧ Grow ty s ty' ⟨s2.heap.set w o, nx⟩ :=
  hI.junk hG (fun m => m = w) (fun m h => h ▸ ⟨hw, hno⟩) hnx (fun m hm hJ => get_other hJ)

theorem Inv.fin2 {ty' : Nat → Ty} {s2 : St} (hI : Inv P ty' s2) (hG : Grow ty s ty' s2) {w v nx : Nat} {o q : AObj} (hw : s.next ≤ w) (hno : (ty' w).isNo = true) (hv : s.next ≤ v) (hnv : (ty' v).isNo = true) (hnx : s2.next ≤ nx) :
    Inv P ty' ⟨(s2.heap.set w o).set v q, nx⟩ ∧ Grow ty s ty' ⟨(s2.heap.set w o).set v q, nx⟩ :=
  hI.junk hG (fun m => m = w ∨ m = v) (fun m h => by rcases h with rfl | rfl; exact ⟨hw, hno⟩; exact ⟨hv, hnv⟩) hnx (fun m hm hJ => by
    rw [get_other (fun e => hJ (.inr e)), get_other (fun e => hJ (.inl e))])

theorem Inv.fin3 {ty' : Nat → Ty} {s2 : St} (hI : Inv P ty' s2) (hG : Grow ty s ty' s2) {w v u nx : Nat} {o q r : AObj} (hw : s.next ≤ w) (hno : (ty' w).isNo = true) (hv : s.next ≤ v) (hnv : (ty' v).isNo = true) (hu : s.next ≤ u) (hnu : (ty' u).isNo = true) (hnx : s2.next ≤ nx) :
    Inv P ty' ⟨((s2.heap.set w o).set v q).set u r, nx⟩ ∧ Grow ty s ty' ⟨((s2.heap.set w o).set v q).set u r, nx⟩ :=
  hI.junk hG (fun m => m = w ∨ m = v ∨ m = u) (fun m h => by rcases h with rfl | rfl | rfl; exact ⟨hw, hno⟩; exact ⟨hv, hnv⟩; exact ⟨hu, hnu⟩) hnx (fun m hm hJ => by
    rw [get_other (fun e => hJ (.inr (.inr e))), get_other (fun e => hJ (.inr (.inl e))), get_other (fun e => hJ (.inl e))])

theorem own_ok (hP : POnly prim) (hL : LayOk P) (hI : Inv P ty s) {k sa sb f r v t val num a1 a2 b1 b2 : Int}
    (hq : ∀ e n k v t u s', Inv P ty s' ∧ Grow ty s ty s' → Q (ansV e n k v t u) s') :
    WC (tE prim) 66 [P.p 0, .int .i64 0, opV k sa sb f r v t val num, idV a1 a2, idV b1 b2] s Q := by
  refine WC_fn (fm66 prim (hP.no _)) rfl ?_
  obtain ⟨c, hc0, hc1, hc2, h0⟩ := hL.n
  have ng : ∀ m, s.next ≤ m → (ty m).isNo = true := fun m => hI.noge
  by_cases hk4 : k = 4
  · subst hk4
    simp (disch := omega) [m66]
    refine none_ok hP fun s1 k1 => ?_
    have n1 := k1.next
    simp only at n1
    have kk : Keep s s1 := ⟨by omega, fun n hn => by rw [k1.get n (by simp only; omega)]; simp (disch := omega)⟩
    have g7 := k1.get s.next (by simp only; omega)
    have g10 := k1.get (s.next + 1 + 1 + 1) (by simp only; omega)
    have g11 := k1.get (s.next + 1 + 1 + 1 + 1) (by simp only; omega)
    simp (disch := omega) at g7 g10 g11
    have hI1 := hI.keep kk
    have hn := hI1.const 0 (by decide)
    rw [h0] at hn
    have ln := hI1.ltn 0 (.inl (by decide))
    by_cases hz : b1 = 0 ∧ b2 = 0
    · obtain ⟨rfl, rfl⟩ := hz
      simp (disch := omega) [g10, g11]
      exact hq _ _ _ _ _ _ _ (hI1.fin1 (.of_keep kk) (by omega) (ng _ (by omega)) (by omega))
    have hz' : (decide (b1 = 0) && decide (b2 = 0)) = false := by
      rw [Bool.and_eq_false_iff]
      by_cases h : b1 = 0
      · right; simpa using fun e => hz ⟨h, e⟩
      · left; simpa using h
    simp (disch := omega) [g10, g11, hz']
    refine local_ok hP (row := _) (x := 1) ln hn rfl fun s2 k2 => ?_
    have n2 := k2.next
    have g7 := (k2.get s.next (by omega)).trans g7
    have g10 := (k2.get (s.next + 1 + 1 + 1) (by omega)).trans g10
    have g11 := (k2.get (s.next + 1 + 1 + 1 + 1) (by omega)).trans g11
    have kk := kk.trans k2
    have hI2 := hI1.keep k2
    have hn := hI2.const 0 (by decide)
    rw [h0] at hn
    have ln := hI2.ltn 0 (.inl (by decide))
    by_cases h1 : ¬ b1 = 1
    · simp (disch := omega) [h1, g10]
      exact hq _ _ _ _ _ _ _ (hI2.fin1 (.of_keep kk) (by omega) (ng _ (by omega)) (by omega))
    have h1 := Classical.not_not.1 h1
    simp (disch := omega) [h1, g7, g11, hn]
    have k3 : Keep s2 ⟨s2.heap, s2.next + 15⟩ := ⟨by simp only; omega, fun n hn => rfl⟩
    refine Ref_ok hP (hI2.keep k3) fun y1 y2 e s4 k4 _ => ?_
    have n4 := k4.next
    simp only at n4
    have k34 := k3.trans k4
    have g7 := (k34.get s.next (by omega)).trans g7
    have g10 := (k34.get (s.next + 1 + 1 + 1) (by omega)).trans g10
    have kk := kk.trans k34
    have hI4 := hI2.keep k34
    by_cases he : ¬ e = 0
    · simp (disch := omega) [he, g10]
      exact hq _ _ _ _ _ _ _ (hI4.fin3 (.of_keep kk) (by omega) (ng _ (by omega)) (by omega) (ng _ (by omega)) (by omega) (ng _ (by omega)) (by omega))
    have he := Classical.not_not.1 he
    simp (disch := omega) [he, g7]
    have hJ := hI4.fin2 (.of_keep kk) (w := s2.next + 12) (v := s2.next + 12) (o := .cells (idL 0 0) none false) (q := .cells (idL y1 y2) none false) (nx := s4.next) (by omega) (ng _ (by omega)) (by omega) (ng _ (by omega)) (by omega)
    refine hold_ok hP hL hJ.1 fun s5 hI5 hG5 => ?_
    have n5 := hG5.next
    simp only at n5
    have g10' := (hG5.get (s.next + 1 + 1 + 1) (by simp only; omega) (ng _ (by omega))).2
    simp (disch := omega) [g10] at g10'
    simp (disch := omega) [g10']
    exact hq _ _ _ _ _ _ _ (hI5.fin1 (hJ.2.trans hG5) (by omega) (ng _ (by omega)) (by omega))
  · simp (disch := omega) [m66, hk4]
    refine none_ok hP fun s1 k1 => ?_
    have n1 := k1.next
    simp only at n1
    have kk : Keep s s1 := ⟨by omega, fun n hn => by rw [k1.get n (by simp only; omega)]; simp (disch := omega)⟩
    have g7 := k1.get s.next (by simp only; omega)
    have g9 := k1.get (s.next + 1 + 1) (by simp only; omega)
    have g10 := k1.get (s.next + 1 + 1 + 1) (by simp only; omega)
    have g11 := k1.get (s.next + 1 + 1 + 1 + 1) (by simp only; omega)
    simp (disch := omega) at g7 g9 g10 g11
    have hI1 := hI.keep kk
    have hn := hI1.const 0 (by decide)
    rw [h0] at hn
    have ln := hI1.ltn 0 (.inl (by decide))
    by_cases hz : a1 = 0 ∧ a2 = 0
    · obtain ⟨rfl, rfl⟩ := hz
      simp (disch := omega) [g10, g11]
      exact hq _ _ _ _ _ _ _ (hI1.fin1 (.of_keep kk) (by omega) (ng _ (by omega)) (by omega))
    have hz' : (decide (a1 = 0) && decide (a2 = 0)) = false := by
      rw [Bool.and_eq_false_iff]
      by_cases h : a1 = 0
      · right; simpa using fun e => hz ⟨h, e⟩
      · left; simpa using h
    simp (disch := omega) [g10, g11, hz']
    refine local_ok hP (row := _) (x := 1) ln hn rfl fun s2 k2 => ?_
    have n2 := k2.next
    have g7 := (k2.get s.next (by omega)).trans g7
    have g9 := (k2.get (s.next + 1 + 1) (by omega)).trans g9
    have g10 := (k2.get (s.next + 1 + 1 + 1) (by omega)).trans g10
    have g11 := (k2.get (s.next + 1 + 1 + 1 + 1) (by omega)).trans g11
    have kk := kk.trans k2
    have hI2 := hI1.keep k2
    have hn := hI2.const 0 (by decide)
    rw [h0] at hn
    have ln := hI2.ltn 0 (.inl (by decide))
    by_cases h1 : ¬ a1 = 1
    · simp (disch := omega) [h1, g10]
      exact hq _ _ _ _ _ _ _ (hI2.fin1 (.of_keep kk) (by omega) (ng _ (by omega)) (by omega))
    have h1 := Classical.not_not.1 h1
    by_cases hk6 : k = 6
    · simp (disch := omega) [h1, g7, g11, hn, hk4, hk6]
      have k3 : Keep s2 ⟨s2.heap, s2.next + 14⟩ := ⟨by simp only; omega, fun n hn => rfl⟩
      refine Val_ok hP (hI2.keep k3) fun y e _ => ?_
      simp (disch := omega) [g10]
      exact hq _ _ _ _ _ _ _ (hI2.fin1 (.of_keep kk) (by omega) (ng _ (by omega)) (by omega))
    by_cases hk7 : k = 7
    · simp (disch := omega) [h1, g7, g11, hn, hk4, hk6, hk7]
      have k3 : Keep s2 ⟨s2.heap, s2.next + 13⟩ := ⟨by simp only; omega, fun n hn => rfl⟩
      refine SetVal_ok hP (hI2.keep k3) fun e s4 hI4 hG4 => ?_
      have n4 := hG4.next
      simp only at n4
      have g10' := (hG4.get (s.next + 1 + 1 + 1) (by simp only; omega) (ng _ (by omega))).2
      simp (disch := omega) [g10] at g10'
      simp (disch := omega) [g10']
      exact hq _ _ _ _ _ _ _ (hI4.fin1 (((Grow.of_keep kk).trans (.of_keep k3)).trans hG4) (by omega) (ng _ (by omega)) (by omega))
    simp (disch := omega) [h1, g7, g9, g11, hn, hk4, hk6, hk7]
    refine lapsed_ok hP hL hI2 fun s3 k3 => ?_
    have n3 := k3.next
    have g7 := (k3.get s.next (by omega)).trans g7
    have g9 := (k3.get (s.next + 1 + 1) (by omega)).trans g9
    have g10 := (k3.get (s.next + 1 + 1 + 1) (by omega)).trans g10
    have g11 := (k3.get (s.next + 1 + 1 + 1 + 1) (by omega)).trans g11
    have kk := kk.trans k3
    have hI3 := hI2.keep k3
    have hn := hI3.const 0 (by decide)
    rw [h0] at hn
    have ln := hI3.ltn 0 (.inl (by decide))
    cases hl : lapsedB b1 b2 with
    | true =>
      simp (disch := omega) [g10]
      exact hq _ _ _ _ _ _ _ (hI3.fin1 (.of_keep kk) (by omega) (ng _ (by omega)) (by omega))
    | false =>
      simp (disch := omega) [g7, g9, g11, hn]
      have k4 : Keep s3 ⟨s3.heap, s3.next + 16⟩ := ⟨by simp only; omega, fun n hn => rfl⟩
      refine SetRef_ok hP (hI3.keep k4) fun y1 y2 e s5 hI5 hG5 => ?_
      have n5 := hG5.next
      simp only at n5
      have g9' := (hG5.get (s.next + 1 + 1) (by simp only; omega) (ng _ (by omega))).2
      have g10' := (hG5.get (s.next + 1 + 1 + 1) (by simp only; omega) (ng _ (by omega))).2
      simp only at g9' g10'
      rw [g9] at g9'
      rw [g10] at g10'
      have hGG := ((Grow.of_keep kk).trans (.of_keep k4)).trans hG5
      by_cases he : e = 0
      · have hJ := hI5.fin2 hGG (w := s3.next + 13) (v := s3.next + 13) (o := .cells (idL 0 0) none false) (q := .cells (idL y1 y2) none false) (nx := s5.next + 8) (by omega) (ng _ (by omega)) (by omega) (ng _ (by omega)) (by omega)
        have hn := hI5.const 0 (by decide)
        rw [h0] at hn
        have ln := hI5.ltn 0 (.inl (by decide))
        have ln0 := hI.ltn 0 (.inl (by decide))
        simp (disch := omega) [he, g9', hn]
        refine Store_ok hP hL hJ.1 fun s6 k6 => ?_
        have n6 := k6.next
        simp only at n6
        have g10'' := k6.get (s.next + 1 + 1 + 1) (by simp only; omega)
        simp (disch := omega) [g10'] at g10''
        simp (disch := omega) [g10'']
        exact hq _ _ _ _ _ _ _ ((hJ.1.keep k6).fin1 (hJ.2.trans (.of_keep k6)) (by omega) (ng _ (by omega)) (by omega))
      · simp (disch := omega) [he, g10']
        exact hq _ _ _ _ _ _ _ (hI5.fin3 hGG (by omega) (ng _ (by omega)) (by omega) (ng _ (by omega)) (by omega) (ng _ (by omega)) (by omega))

end Go.Sh

namespace Go.Sh
open Go
open Go.Proofs

variable {prim : PrimF} {s : St} {Q : Value → St → Prop} {P : Lay} {ty : Nat → Ty} {ρ : Rho}

theorem pass0_ok (hP : POnly prim) {x : Value} (hq : ∀ s', Keep s s' → Q (.tuple #[]) s') : WC (tE prim) 121 [x, idV 0 0] s Q := by
  refine WC_fn (fm121 prim (hP.no _)) rfl ?_
  simp (disch := omega) [m121]
  refine none_ok hP fun s1 k1 => ?_
  have n1 := k1.next
  simp only at n1
  have kk : Keep s s1 := ⟨by omega, fun n hn => by rw [k1.get n (by simp only; omega)]; simp (disch := omega)⟩
  have g3 := k1.get s.next (by simp only; omega)
  simp (disch := omega) at g3
  simp (disch := omega) [g3]
  exact hq _ kk

theorem call_ok (hP : POnly prim) (hL : LayOk P) (hN : P.now = P.born) (hI : Inv P ty s) {k sa sb f r v t val num a1 a2 b1 b2 : Int}
    (hq : ∀ e n k v t u ty' s', Inv P ty' s' ∧ Grow ty s ty' s' → Q (ansV e n k v t u) s') :
    WC (tE prim) 68 [P.p 0, opV k sa sb f r v t val num, idV a1 a2, idV b1 b2] s Q := by
  refine WC_fn (fm68 prim (hP.no _)) rfl ?_
  obtain ⟨c, hc0, hc1, hc2, h0⟩ := hL.n
  have ng : ∀ m, s.next ≤ m → (ty m).isNo = true := fun m => hI.noge
  have k0 : Keep s ⟨(((s.heap.set s.next (.cells (opL k sa sb f r v t val num) none false)).set (s.next + 1) (.cells (idL a1 a2) none false)).set (s.next + 1 + 1) (.cells (idL b1 b2) none false)).set (s.next + 1 + 1 + 1) (.cells (ansL 0 0 0 0 0 0) none false), s.next + 1 + 1 + 1 + 1⟩ :=
    ⟨by simp only; omega, fun n hn => by simp (disch := omega)⟩
  by_cases hk9 : k = 9
  · subst hk9
    by_cases hr0 : r < 0
    · simp (disch := omega) [m68, hr0]
      exact hq _ _ _ _ _ _ _ _ ((hI.keep k0).fin1 (.of_keep k0) (by omega) (ng _ (by omega)) (by simp only; omega))
    by_cases hr7 : 7 < r
    · simp (disch := omega) [m68, hr0, hr7]
      exact hq _ _ _ _ _ _ _ _ ((hI.keep k0).fin1 (.of_keep k0) (by omega) (ng _ (by omega)) (by simp only; omega))
    by_cases hv0 : v < 0
    · simp (disch := omega) [m68, hr0, hr7, hv0]
      exact hq _ _ _ _ _ _ _ _ ((hI.keep k0).fin1 (.of_keep k0) (by omega) (ng _ (by omega)) (by simp only; omega))
    by_cases hv7 : 7 < v
    · simp (disch := omega) [m68, hr0, hr7, hv0, hv7]
      exact hq _ _ _ _ _ _ _ _ ((hI.keep k0).fin1 (.of_keep k0) (by omega) (ng _ (by omega)) (by simp only; omega))
    · simp (disch := omega) [m68, hr0, hr7, hv0, hv7]
      refine none_ok hP fun s1 k1 => ?_
      have n1 := k1.next
      simp only at n1
      have kk : Keep s s1 := ⟨by omega, fun n hn => by rw [k1.get n (by simp only; omega)]; simp (disch := omega)⟩
      have g5 := k1.get s.next (by simp only; omega)
      have g6 := k1.get (s.next + 1) (by simp only; omega)
      have g8 := k1.get (s.next + 1 + 1 + 1) (by simp only; omega)
      simp (disch := omega) at g5 g6 g8
      have hI1 := hI.keep kk
      have hn := hI1.const 0 (by decide)
      rw [h0] at hn
      have ln0 := hI.ltn 0 (.inl (by decide))
      have hJ := hI1.fin1 (.of_keep kk) (w := s.next + 1) (o := .cells (idL 0 0) none false) (nx := s1.next + 21) (by omega) (ng _ (by omega)) (by omega)
      simp (disch := omega) [g5, g6, hn]
      refine Now_ok hP hJ.1 ?_
      simp (disch := omega) [hn]
      refine Begin_ok hP hL hN hJ.1 fun num' e ty' s3 hI3 hG3 => ?_
      have n3 := hG3.next
      simp only at n3
      have q6 := hG3.get (s.next + 1) (by simp only; omega) (ng _ (by omega))
      have q8 := hG3.get (s.next + 1 + 1 + 1) (by simp only; omega) (ng _ (by omega))
      have g6' := q6.2
      have g8' := q8.2
      simp (disch := omega) [g8] at g6' g8'
      by_cases he0 : e = 0
      · simp (disch := omega) [he0, g6']
        refine pass0_ok hP fun s4 k4 => ?_
        have n4 := k4.next
        have g8'' := (k4.get (s.next + 1 + 1 + 1) (by omega)).trans g8'
        simp (disch := omega)
        refine loop_exit ?_
        simp (disch := omega) [g8'']
        exact hq _ _ _ _ _ _ _ _ ((hI3.keep k4).fin1 ((hJ.2.trans hG3).trans (.of_keep k4)) (by omega) q8.1 (by omega))
      by_cases he1 : e = 1
      · simp (disch := omega) [he0, he1, g8']
        exact hq _ _ _ _ _ _ _ _ (hI3.fin1 (hJ.2.trans hG3) (by omega) q8.1 (by omega))
      · simp (disch := omega) [he0, he1, g8']
        exact hq _ _ _ _ _ _ _ _ (hI3.fin1 (hJ.2.trans hG3) (by omega) q8.1 (by omega))
  by_cases hk15 : k = 15
  · subst hk15
    · simp (disch := omega) [m68]
      refine none_ok hP fun s1 k1 => ?_
      have n1 := k1.next
      simp only at n1
      have kk : Keep s s1 := ⟨by omega, fun n hn => by rw [k1.get n (by simp only; omega)]; simp (disch := omega)⟩
      have g5 := k1.get s.next (by simp only; omega)
      have g6 := k1.get (s.next + 1) (by simp only; omega)
      have g8 := k1.get (s.next + 1 + 1 + 1) (by simp only; omega)
      simp (disch := omega) at g5 g6 g8
      have hI1 := hI.keep kk
      have hn := hI1.const 0 (by decide)
      rw [h0] at hn
      have ln0 := hI.ltn 0 (.inl (by decide))
      have hJ := hI1.fin1 (.of_keep kk) (w := s.next + 1) (o := .cells (idL 0 0) none false) (nx := s1.next + 21) (by omega) (ng _ (by omega)) (by omega)
      simp (disch := omega) [g5, g6, hn]
      refine Now_ok hP hJ.1 ?_
      simp (disch := omega) [hn]
      refine Begin_ok hP hL hN hJ.1 fun num' e ty' s3 hI3 hG3 => ?_
      have n3 := hG3.next
      simp only at n3
      have q6 := hG3.get (s.next + 1) (by simp only; omega) (ng _ (by omega))
      have q8 := hG3.get (s.next + 1 + 1 + 1) (by simp only; omega) (ng _ (by omega))
      have g6' := q6.2
      have g8' := q8.2
      simp (disch := omega) [g8] at g6' g8'
      by_cases he0 : e = 0
      · simp (disch := omega) [he0, g6']
        refine pass0_ok hP fun s4 k4 => ?_
        have n4 := k4.next
        have g8'' := (k4.get (s.next + 1 + 1 + 1) (by omega)).trans g8'
        simp (disch := omega)
        refine loop_exit ?_
        simp (disch := omega) [g8'']
        exact hq _ _ _ _ _ _ _ _ ((hI3.keep k4).fin1 ((hJ.2.trans hG3).trans (.of_keep k4)) (by omega) q8.1 (by omega))
      by_cases he1 : e = 1
      · simp (disch := omega) [he0, he1, g8']
        exact hq _ _ _ _ _ _ _ _ (hI3.fin1 (hJ.2.trans hG3) (by omega) q8.1 (by omega))
      · simp (disch := omega) [he0, he1, g8']
        exact hq _ _ _ _ _ _ _ _ (hI3.fin1 (hJ.2.trans hG3) (by omega) q8.1 (by omega))
  simp (disch := omega) [m68, hk9, hk15]
  refine none_ok hP fun s1 k1 => ?_
  have n1 := k1.next
  simp only at n1
  have kk : Keep s s1 := ⟨by omega, fun n hn => by rw [k1.get n (by simp only; omega)]; simp (disch := omega)⟩
  have g5 := k1.get s.next (by simp only; omega)
  have g6 := k1.get (s.next + 1) (by simp only; omega)
  have g8 := k1.get (s.next + 1 + 1 + 1) (by simp only; omega)
  simp (disch := omega) at g5 g6 g8
  have hI1 := hI.keep kk
  have hn := hI1.const 0 (by decide)
  rw [h0] at hn
  have ln := hI1.ltn 0 (.inl (by decide))
  by_cases hz : a1 = 0 ∧ a2 = 0
  · obtain ⟨rfl, rfl⟩ := hz
    simp (disch := omega) [g6, g8]
    exact hq _ _ _ _ _ _ _ _ (hI1.fin1 (.of_keep kk) (by omega) (ng _ (by omega)) (by omega))
  have hz' : (decide (a1 = 0) && decide (a2 = 0)) = false := by
    rw [Bool.and_eq_false_iff]
    by_cases h : a1 = 0
    · right; simpa using fun e => hz ⟨h, e⟩
    · left; simpa using h
  simp (disch := omega) [g6, g8, hz']
  refine local_ok hP (row := _) (x := 1) ln hn rfl fun s2 k2 => ?_
  have n2 := k2.next
  have g6 := (k2.get (s.next + 1) (by omega)).trans g6
  have g8 := (k2.get (s.next + 1 + 1 + 1) (by omega)).trans g8
  have kk := kk.trans k2
  have hI2 := hI1.keep k2
  by_cases h1 : a1 = 1
  · simp (disch := omega) [h1, g8]
    exact hq _ _ _ _ _ _ _ _ (hI2.fin1 (.of_keep kk) (by omega) (ng _ (by omega)) (by omega))
  simp (disch := omega) [h1, g6]
  refine lapsed_ok hP hL hI2 fun s3 k3 => ?_
  have n3 := k3.next
  have g8 := (k3.get (s.next + 1 + 1 + 1) (by omega)).trans g8
  have kk := kk.trans k3
  have hl : lapsedB a1 a2 = true := by unfold lapsedB; rw [hz']; simp [h1]
  simp (disch := omega) [hl, g8]
  exact hq _ _ _ _ _ _ _ _ ((hI2.keep k3).fin1 (.of_keep kk) (by omega) (ng _ (by omega)) (by omega))

theorem nawait_ok (hP : POnly prim) (hL : LayOk P) (hN : P.now = P.born) (hI : Inv P ty s) {k sa sb f r v t val num : Int}
    (hq : ∀ e s', Inv P ty s' ∧ Grow ty s ty s' → Q (.tuple #[ansV e 0 0 0 0 0, .slice none 0 0]) s') :
    WC (tE prim) 67 [P.p 0, .int .i64 0, opV k sa sb f r v t val num] s Q := by
  refine WC_fn (fm67 prim (hP.no _)) rfl ?_
  obtain ⟨c, hc0, hc1, hc2, h0⟩ := hL.n
  have ng : ∀ m, s.next ≤ m → (ty m).isNo = true := fun m => hI.noge
  have hn := hI.const 0 (by decide)
  rw [h0] at hn
  have ln := hI.ltn 0 (.inl (by decide))
  have k0 : Keep s ⟨(s.heap.set s.next (.cells (opL k sa sb f r v t val num) none false)).set (s.next + 1) (.cells (ansL 0 0 0 0 0 0) none false), s.next + 1 + 1 + 22⟩ :=
    ⟨by simp only; omega, fun n hn => by simp (disch := omega)⟩
  have hI0 := hI.keep k0
  simp (disch := omega) [m67, hn]
  refine Now_ok hP hI0 ?_
  simp (disch := omega) [hn]
  refine Await_ok hP hL hN hI0 fun e s1 k1 he => ?_
  have n1 := k1.next
  simp only at n1
  have g6 := k1.get (s.next + 1) (by simp only; omega)
  simp (disch := omega) at g6
  have kk := k0.trans k1
  have hI1 := hI.keep kk
  have hJ := hI1.fin2 (.of_keep kk) (w := s.next + 1 + 1 + 18) (v := s.next + 1 + 1 + 18) (o := .cells zeroCall none false) (q := .cells zeroCall none false) (nx := s1.next) (by omega) (ng _ (by omega)) (by omega) (ng _ (by omega)) (by omega)
  simp (disch := omega) [he]
  refine why_ok hP fun s2 k2 => ?_
  have n2 := k2.next
  simp only at n2
  have g6' := k2.get (s.next + 1) (by simp only; omega)
  simp (disch := omega) [g6] at g6'
  simp (disch := omega) [g6']
  exact hq _ _ ((hJ.1.keep k2).fin1 (hJ.2.trans (.of_keep k2)) (by omega) (ng _ (by omega)) (by omega))

end Go.Sh

namespace Go.Sh
open Go
open Go.Proofs

variable {prim : PrimF} {s : St} {Q : Value → St → Prop} {P : Lay} {ty : Nat → Ty} {ρ : Rho}

theorem run_mkfn {g a : Nat} {nm : Option Nat} : opRun (tE prim) (evO ρ) (gop (.makeFunc (.func g) #[] #[.tmp a])) nm s = some (.func (.func g) #[] #[ρ a], s) := by
  simp [opRun, cls, gop, apure, evalL, evO]

attribute [simp] run_mkfn

theorem names_any (hP : POnly prim) {k : Int} (hq : ∀ x y z, Q (.tuple #[.bool x, .bool y, .bool z]) s) : WC (tE prim) 103 [.int .i64 k] s Q := names_ok hP (hq _ _ _)

theorem in104_ok (hP : POnly prim) (hL : LayOk P) (hI : Inv P ty s) {t : Int} {w : Nat} (hw : s.heap.get w = some (.cells [P.p 0] none false)) (hq : ∀ b, Q (.bool b) s) : WC (tE prim) 104 [.int .i64 t, .pointer (some ⟨w, 0, none⟩)] s Q := by
  refine WC_fn (fm104 prim (hP.no _)) rfl ?_
  obtain ⟨c, hc0, hc1, hc2, h0⟩ := hL.n
  have hn := hI.const 0 (by decide)
  rw [h0] at hn
  by_cases h1 : 0 ≤ t
  · by_cases h2 : t < c 2
    · simp (disch := omega) [m104, hw, hn, h1, h2]; exact hq _
    · simp (disch := omega) [m104, hw, hn, h1, h2]; exact hq _
  · simp (disch := omega) [m104, hw, hn, h1]; exact hq _

theorem named_ok (hP : POnly prim) (hL : LayOk P) (hI : Inv P ty s) {k sa sb f r v t val num : Int} (hq : ∀ b s', Keep s s' → Q (.bool b) s') :
    WC (tE prim) 58 [P.p 0, .int .i64 0, opV k sa sb f r v t val num] s Q := by
  refine WC_fn (fm58 prim (hP.no _)) rfl ?_
  obtain ⟨c, hc0, hc1, hc2, h0⟩ := hL.n
  have hmu := hL.mu1
  have ln := hI.ltn 0 (.inl (by decide))
  have k0 : Keep s ⟨(s.heap.set s.next (.cells [P.p 0] none false)).set (s.next + 1) (.cells (opL k sa sb f r v t val num) none false), s.next + 1 + 1⟩ := ⟨by simp only; omega, fun n hn => by simp (disch := omega)⟩
  have hI0 := hI.keep k0
  have hn := hI0.const 0 (by decide)
  rw [h0] at hn
  simp (disch := omega) at hn
  have hm1 : (0 : Int) < c 1 := by omega
  simp (disch := omega) [m58]
  refine names_any hP fun x y z => ?_
  by_cases h1 : ¬ 1 ≤ k
  · simp (disch := omega) [hn, hm1, h1]
    exact hq _ _ k0
  have h1 := Classical.not_not.1 h1
  by_cases h15 : ¬ k ≤ 15
  · simp (disch := omega) [hn, hm1, h1, h15]
    exact hq _ _ k0
  have h15 := Classical.not_not.1 h15
  have second : True := trivial
  cases x with
  | false =>
    cases y with
    | false =>
      simp (disch := omega) [hn, hm1, h1, h15]
      exact hq _ _ k0
    | true =>
      simp (disch := omega) [hn, hm1, h1, h15]
      refine in104_ok hP hL hI0 (by simp (disch := omega)) fun b => ?_
      rcases Classical.em (sb = -1) with hb | hb <;> (first | have hb' := eq_true hb | have hb' := eq_false hb) <;> cases b <;> cases z <;> simp (disch := omega) [hb'] <;> exact hq _ _ k0
  | true =>
    simp (disch := omega) [hn, hm1, h1, h15]
    refine in104_ok hP hL hI0 (by simp (disch := omega)) fun b => ?_
    cases b with
    | false =>
      simp (disch := omega)
      exact hq _ _ k0
    | true =>
      cases y with
      | false =>
        simp (disch := omega)
        exact hq _ _ k0
      | true =>
        simp (disch := omega)
        refine in104_ok hP hL hI0 (by simp (disch := omega)) fun b => ?_
        rcases Classical.em (sb = -1) with hb | hb <;> (first | have hb' := eq_true hb | have hb' := eq_false hb) <;> cases b <;> cases z <;> simp (disch := omega) [hb'] <;> exact hq _ _ k0

theorem Inv.fin4 {ty' : Nat → Ty} {s2 : St} (hI : Inv P ty' s2) (hG : Grow ty s ty' s2) {w v u x nx : Nat} {o q r p : AObj} (hw : s.next ≤ w) (hno : (ty' w).isNo = true) (hv : s.next ≤ v) (hnv : (ty' v).isNo = true) (hu : s.next ≤ u) (hnu : (ty' u).isNo = true)
    (hx : s.next ≤ x) (hnx' : (ty' x).isNo = true) (hnx : s2.next ≤ nx) :
    Inv P ty' ⟨(((s2.heap.set w o).set v q).set u r).set x p, nx⟩ ∧ Grow ty s ty' ⟨(((s2.heap.set w o).set v q).set u r).set x p, nx⟩ :=
  hI.junk hG (fun m => m = w ∨ m = v ∨ m = u ∨ m = x) (fun m h => by rcases h with rfl | rfl | rfl | rfl; exact ⟨hw, hno⟩; exact ⟨hv, hnv⟩; exact ⟨hu, hnu⟩; exact ⟨hx, hnx'⟩) hnx (fun m hm hJ => by
    rw [get_other (fun e => hJ (.inr (.inr (.inr e)))), get_other (fun e => hJ (.inr (.inr (.inl e)))), get_other (fun e => hJ (.inr (.inl e))), get_other (fun e => hJ (.inl e))])

theorem Do_ok (hP : POnly prim) (hL : LayOk P) (hN : P.now = P.born) (hI : Inv P ty s) {k sa sb f r v t val num : Int} (hq : ∀ x ty' s', Inv P ty' s' ∧ Grow ty s ty' s' → Q x s') :
    WC (tE prim) 14 [P.p 0, .int .i64 0, opV k sa sb f r v t val num] s Q := by
  refine WC_fn (fm14 prim (hP.no _)) rfl ?_
  obtain ⟨c, hc0, hc1, hc2, h0⟩ := hL.n
  have hmu := hL.mu1
  have ng : ∀ m, s.next ≤ m → (ty m).isNo = true := fun m => hI.noge
  have ln0 := hI.ltn 0 (.inl (by decide))
  have u25 : P.use 25 := .inr ⟨by omega, by omega⟩
  have k0 : Keep s ⟨(s.heap.set s.next (.cells (opL k sa sb f r v t val num) none false)).set (s.next + 1) (.cells (ansL 0 0 0 0 0 0) none false), s.next + 1 + 1⟩ := ⟨by simp only; omega, fun n hn => by simp (disch := omega)⟩
  simp (disch := omega) [m14]
  refine named_ok hP hL (hI.keep k0) fun b s1 k1 => ?_
  have n1 := k1.next
  simp only at n1
  have g5 := k1.get s.next (by simp only; omega)
  have g6 := k1.get (s.next + 1) (by simp only; omega)
  simp (disch := omega) at g5 g6
  have kk := k0.trans k1
  have hI1 := hI.keep kk
  cases b with
  | false =>
    simp (disch := omega)
    refine why_ok hP fun s2 k2 => ?_
    have n2 := k2.next
    have g6 := (k2.get (s.next + 1) (by omega)).trans g6
    have kk := kk.trans k2
    simp (disch := omega) [g6]
    exact hq _ _ _ ((hI.keep kk).fin1 (.of_keep kk) (by omega) (ng _ (by omega)) (by omega))
  | true =>
    simp (disch := omega) [g5]
    have k2 : Keep s1 ⟨s1.heap, s1.next + 14⟩ := ⟨by simp only; omega, fun n hn => rfl⟩
    obtain ⟨o, hr, ids, hlen, rfl⟩ := (hI1.keep k2).fixed 25 u25
    refine at_ok (m := 0) hP hL (hI1.keep k2) (by omega) (by simpa using hr) hlen fun s3 k3 => ?_
    have n3 := k3.next
    simp only at n3
    have g5 := ((k2.trans k3).get s.next (by omega)).trans g5
    have g6 := ((k2.trans k3).get (s.next + 1) (by omega)).trans g6
    simp (disch := omega) [g5]
    have l25 := (hI1.keep k2).ltn 25 u25
    refine at_ok (m := 0) hP hL ((hI1.keep k2).keep k3) (by omega) (by simpa using (k3.get _ l25).trans hr) hlen fun s4 k4 => ?_
    have n4 := k4.next
    have g5 := (k4.get s.next (by omega)).trans g5
    have g6 := (k4.get (s.next + 1) (by omega)).trans g6
    have kk := ((kk.trans k2).trans k3).trans k4
    have hI4 := hI.keep kk
    generalize gid ids sa = a
    generalize gid ids sb = b
    obtain ⟨a1, a2⟩ := a
    obtain ⟨b1, b2⟩ := b
    have hJ : ∀ nx, s4.next ≤ nx → Inv P ty ⟨(((s4.heap.set (s1.next + 10) (.cells (idL 0 0) none false)).set (s1.next + 11) (.cells (idL 0 0) none false)).set (s1.next + 10) (.cells (idL a1 a2) none false)).set (s1.next + 11) (.cells (idL b1 b2) none false), nx⟩ ∧ Grow ty s ty ⟨(((s4.heap.set (s1.next + 10) (.cells (idL 0 0) none false)).set (s1.next + 11) (.cells (idL 0 0) none false)).set (s1.next + 10) (.cells (idL a1 a2) none false)).set (s1.next + 11) (.cells (idL b1 b2) none false), nx⟩ :=
      fun nx h => hI4.fin4 (.of_keep kk) (by omega) (ng _ (by omega)) (by omega) (ng _ (by omega)) (by omega) (ng _ (by omega)) (by omega) (ng _ (by omega)) h
    have hn := hI4.const 0 (by decide)
    rw [h0] at hn
    have ln4 := hI4.ltn 0 (.inl (by decide))
    simp (disch := omega) at hn
    by_cases e1 : k = 1
    · subst e1
      simp (disch := omega) [g5, hn]
      refine Make_ok hP hL (hJ _ (by omega)).1 fun av e ty5 s5 hI5 hG5 => ?_
      have n5 := hG5.next
      simp only at n5
      have q5 := hG5.get s.next (by simp only; omega) (ng _ (by omega))
      have q6 := hG5.get (s.next + 1) (by simp only; omega) (ng _ (by omega))
      have hn := hI5.const 0 (by decide)
      rw [h0] at hn
      simp (disch := omega) at hn
      have ln5 := hI5.ltn 0 (.inl (by decide))
      have q5' := q5.2
      have q6' := q6.2
      simp (disch := omega) [g5, g6] at q5' q6'
      by_cases he : e = 0
      · subst he
        simp (disch := omega) [hn, q5', q6']
        refine Born_ok hP hL hI5 ?_
        simp (disch := omega) [hn, q5', q6']
        have k5 : Keep s5 ⟨s5.heap, s5.next + 13⟩ := ⟨Nat.le_add_right _ _, fun n hn => rfl⟩
        refine hold_ok hP hL (hI5.keep k5) fun s6 hI6 hG6 => ?_
        have n6 := hG6.next
        simp only at n6
        have q6' := (hG6.get (s.next + 1) (by simp only; omega) q6.1).2.trans q6'
        simp (disch := omega) [q6']
        exact hq _ _ _ (hI6.fin1 (((hJ _ (by omega)).2.trans hG5).trans ((Grow.of_keep k5).trans hG6)) (by omega) (by exact q6.1) (by omega))
      · simp (disch := omega) [he, hn, q5', q6']
        refine why_ok hP fun s6 k6 => ?_
        have n6 := k6.next
        have q6' := (k6.get (s.next + 1) (by omega)).trans q6'
        simp (disch := omega) [q6']
        exact hq _ _ _ ((hI5.keep k6).fin1 (((hJ _ (by omega)).2.trans hG5).trans (.of_keep k6)) (by omega) (by exact q6.1) (by omega))
    by_cases e2 : k = 2
    · subst e2
      simp (disch := omega) [g5, hn]
      refine none_ok hP fun s5 k5 => ?_
      have n5 := k5.next
      simp only at n5
      have q5 := k5.get s.next (by simp only; omega)
      have q6 := k5.get (s.next + 1) (by simp only; omega)
      have q8 := k5.get (s1.next + 10) (by simp only; omega)
      have q9 := k5.get (s1.next + 11) (by simp only; omega)
      simp (disch := omega) [g5, g6] at q5 q6 q8 q9
      have hI5 := (hJ _ (by omega)).1.keep k5
      have hG5 := (hJ _ (by omega)).2.trans (.of_keep k5)
      by_cases hz : b1 = 0 ∧ b2 = 0
      · obtain ⟨rfl, rfl⟩ := hz
        simp (disch := omega) [q9]
        refine why_ok hP fun s6 k6 => ?_
        have n6 := k6.next
        have q6 := (k6.get (s.next + 1) (by omega)).trans q6
        simp (disch := omega) [q6]
        exact hq _ _ _ ((hI5.keep k6).fin1 (hG5.trans (.of_keep k6)) (by omega) (ng _ (by omega)) (by omega))
      have hz' : (decide (b1 = 0) && decide (b2 = 0)) = false := by
        rw [Bool.and_eq_false_iff]
        by_cases h : b1 = 0
        · right; simpa using fun e => hz ⟨h, e⟩
        · left; simpa using h
      simp (disch := omega) [q9, hz']
      refine lapsed_ok hP hL hI5 fun s6 k6 => ?_
      have n6 := k6.next
      have q5 := (k6.get s.next (by omega)).trans q5
      have q6 := (k6.get (s.next + 1) (by omega)).trans q6
      have q9 := (k6.get (s1.next + 11) (by omega)).trans q9
      have hI6 := hI5.keep k6
      have hG6 := hG5.trans (.of_keep k6)
      cases hl : lapsedB b1 b2 with
      | true =>
        simp (disch := omega) [hl]
        refine why_ok hP fun s7 k7 => ?_
        have n7 := k7.next
        have q6 := (k7.get (s.next + 1) (by omega)).trans q6
        simp (disch := omega) [q6]
        exact hq _ _ _ ((hI6.keep k7).fin1 (hG6.trans (.of_keep k7)) (by omega) (ng _ (by omega)) (by omega))
      | false =>
        simp (disch := omega) [hl, q5, q9]
        refine hold_ok hP hL hI6 fun s7 hI7 hG7 => ?_
        have n7 := hG7.next
        have q6 := (hG7.get (s.next + 1) (by omega) (ng _ (by omega))).2.trans q6
        simp (disch := omega) [q6]
        exact hq _ _ _ (hI7.fin1 (hG6.trans hG7) (by omega) (ng _ (by omega)) (by omega))
    by_cases e3 : k = 3
    · subst e3
      simp (disch := omega) [g5, hn]
      refine none_ok hP fun s5 k5 => ?_
      have n5 := k5.next
      simp only at n5
      have q5 := k5.get s.next (by simp only; omega)
      have q6 := k5.get (s.next + 1) (by simp only; omega)
      have hn' := k5.get (P.nm 0) (by simp only; omega)
      simp (disch := omega) [g5, g6, hn] at q5 q6 hn'
      have hI5 := (hJ _ (by omega)).1.keep k5
      have hG5 := (hJ _ (by omega)).2.trans (.of_keep k5)
      simp (disch := omega) [q5, hn']
      refine Set_ok hP hL hI5 fun r s7 hI7 hG7 => ?_
      have n7 := hG7.next
      have q6 := (hG7.get (s.next + 1) (by omega) (ng _ (by omega))).2.trans q6
      simp (disch := omega)
      refine why_ok hP fun s8 k8 => ?_
      have n8 := k8.next
      have q6 := (k8.get (s.next + 1) (by omega)).trans q6
      simp (disch := omega) [q6]
      exact hq _ _ _ ((hI7.keep k8).fin1 ((hG5.trans hG7).trans (.of_keep k8)) (by omega) (ng _ (by omega)) (by omega))
    by_cases e8 : k = 8
    · subst e8
      simp (disch := omega) [g5, g6, hn]
      by_cases hz : a1 = b1 ∧ a2 = b2
      · obtain ⟨rfl, rfl⟩ := hz
        simp (disch := omega) [g6]
        exact hq _ _ _ ((hJ s4.next (by omega)).1.fin1 (hJ s4.next (by omega)).2 (by omega) (ng _ (by omega)) (by simp only; omega))
      have hz' : (decide (a1 = b1) && decide (a2 = b2)) = false := by
        rw [Bool.and_eq_false_iff]
        by_cases h : a1 = b1
        · right; simpa using fun e => hz ⟨h, e⟩
        · left; simpa using h
      simp (disch := omega) [hz', g6]
      refine why_ok hP fun s8 k8 => ?_
      have n8 := k8.next
      simp only at n8
      have q6 := k8.get (s.next + 1) (by simp only; omega)
      simp (disch := omega) [g6] at q6
      simp (disch := omega) [q6]
      exact hq _ _ _ (((hJ _ (by omega)).1.keep k8).fin1 ((hJ _ (by omega)).2.trans (.of_keep k8)) (by omega) (ng _ (by omega)) (by omega))
    by_cases ek : k = 4 ∨ k = 6 ∨ k = 7 ∨ k = 5
    · rcases ek with rfl | rfl | rfl | rfl <;>
      · simp (disch := omega) [g5, g6, hn]
        refine own_ok hP hL (hJ _ (by omega)).1 fun e n k v t u s5 h5 => ?_
        have n5 := h5.2.next
        simp only at n5
        have q6 := (h5.2.get (s.next + 1) (by simp only; omega) (ng _ (by omega))).2
        simp (disch := omega) [g6] at q6
        simp (disch := omega) [q6]
        exact hq _ _ _ (h5.1.fin1 ((hJ _ (by omega)).2.trans h5.2) (by omega) (ng _ (by omega)) (by omega))
    by_cases e14 : k = 14
    · subst e14
      simp (disch := omega) [g5, g6, hn]
      refine nawait_ok hP hL hN (hJ _ (by omega)).1 fun e s5 h5 => ?_
      have n5 := h5.2.next
      simp only at n5
      have q6 := (h5.2.get (s.next + 1) (by simp only; omega) (ng _ (by omega))).2
      simp (disch := omega) [g6] at q6
      simp (disch := omega) [q6]
      exact hq _ _ _ (h5.1.fin1 ((hJ _ (by omega)).2.trans h5.2) (by omega) (ng _ (by omega)) (by omega))
    have e4 : ¬ k = 4 := fun e => ek (.inl e)
    have e6 : ¬ k = 6 := fun e => ek (.inr (.inl e))
    have e7 : ¬ k = 7 := fun e => ek (.inr (.inr (.inl e)))
    have e5 : ¬ k = 5 := fun e => ek (.inr (.inr (.inr e)))
    simp (disch := omega) [g5, g6, hn, e1, e2, e3, e8, e4, e5, e6, e7, e14]
    refine call_ok hP hL hN (hJ _ (by omega)).1 fun e n k v t u ty5 s5 h5 => ?_
    have n5 := h5.2.next
    simp only at n5
    have q6 := h5.2.get (s.next + 1) (by simp only; omega) (ng _ (by omega))
    have q6' := q6.2
    simp (disch := omega) [g6] at q6'
    simp (disch := omega) [q6']
    exact hq _ _ _ (h5.1.fin1 ((hJ _ (by omega)).2.trans h5.2) (by omega) q6.1 (by omega))

end Go.Sh
