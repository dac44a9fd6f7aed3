/-
  NodeTicks: two that are shown alike are alike. NodeTicks: two that are shown alike are alike: objects, calls, all of it.
-/
import Derived.Test.YtnhofgbjmofcnaaGreatRVb

namespace Go.Sh
open Go
open Go.Proofs

variable {prim : PrimF} {s : St} {Q : Value → St → Prop} {P : Lay} {ty : Nat → Ty} {ρ : Rho}

/-- A slice that reads as a list. -/
def RdS (s : St) (z : Value) (n : Nat) (vals : List Value) : Prop := ∃ a c, z = .slice a n c ∧ (n = 0 ∨ ∃ r e ro, a = some ⟨r, 0, none⟩ ∧ r < s.next ∧ s.heap.get r = some (.cells vals e ro))

theorem RdS.keep {z : Value} {n : Nat} {vals : List Value} {s' : St} (h : RdS s z n vals) (hk : Keep s s') : RdS s' z n vals := by
  obtain ⟨a, c, h1, h2⟩ := h
  refine ⟨a, c, h1, h2.imp_right fun ⟨r, e, ro, h3, h4, h5⟩ => ⟨r, e, ro, h3, Nat.lt_of_lt_of_le h4 hk.next, by rw [hk.get r h4]; exact h5⟩⟩

theorem SL.rd {k lo n : Nat} {z : Value} {vals : List Value} (h : SL k lo s z n vals) : RdS s z n vals := by
  rcases h.inv with ⟨rfl, rfl, rfl⟩ | ⟨r, rfl, _, h2, h3⟩
  · exact ⟨_, _, rfl, .inl rfl⟩
  · exact ⟨_, _, rfl, .inr ⟨r, _, _, rfl, h2, h3⟩⟩

theorem IDs_ok (hP : POnly prim) {x y : Value} {l : List (Int × Int)} (h1 : RdS s x l.length (idCells l)) (h2 : RdS s y l.length (idCells l)) (hn : l.length ≤ 4096) (hq : ∀ s', Keep s s' → Q (.bool true) s') : WC (tE prim) 26 [x, y] s Q := by
  refine WC_fn (fm26 prim (hP.no _)) rfl ?_
  obtain ⟨a, c, rfl, h3⟩ := h1
  obtain ⟨b, d, rfl, h4⟩ := h2
  simp (disch := omega) [m26]
  refine loop_rule (fun m ρ s' => Keep s s' ∧ ρ 0 = .slice a l.length c ∧ ρ 1 = .slice b l.length d ∧ ∃ i : Nat, ρ 5 = .int .i64 i ∧ i ≤ l.length ∧ l.length - i ≤ m) ?_ l.length ?_
  · rintro m ρ s1 ⟨k1, q0, q1, i, q5, hi, hm⟩
    by_cases hlt : i < l.length
    · rcases h3 with h3 | ⟨r, e, ro, rfl, lr, gr⟩
      · omega
      rcases h4 with h4 | ⟨t, f, rp, rfl, lt, gt⟩
      · omega
      have gr1 := (k1.get r lr).trans gr
      have gt1 := (k1.get t lt).trans gt
      have hlt' : (i : Int) < l.length := by omega
      have hg := idCells_get (l := l) (i := i) (x := l[i]) (by simp [hlt])
      have hw : IntKind.i64.wrap ((i : Int) + 1) = i + 1 := w64 (by omega) (by omega)
      simp (disch := omega) [q0, q1, q5, hlt', gr1, gt1, hg, hw]
      exact ⟨m - 1, by omega, ⟨by have := k1.next; simp only; omega, fun n hn => by simp only; exact k1.get n hn⟩, i + 1, by simp, by omega, by omega⟩
    · have hlt' : ¬ (i : Int) < l.length := by omega
      simp (disch := omega) [q0, q1, q5, hlt']
      exact hq _ k1
  · simp (disch := omega)
    exact ⟨.refl s, 0, by simp⟩

theorem Numbers_ok (hP : POnly prim) {x y : Value} {l : List Int} (h1 : RdS s x l.length (l.map (.int .u64))) (h2 : RdS s y l.length (l.map (.int .u64))) (hn : l.length ≤ 4096) (hq : ∀ s', Keep s s' → Q (.bool true) s') : WC (tE prim) 30 [x, y] s Q := by
  refine WC_fn (fm30 prim (hP.no _)) rfl ?_
  obtain ⟨a, c, rfl, h3⟩ := h1
  obtain ⟨b, d, rfl, h4⟩ := h2
  simp (disch := omega) [m30]
  refine loop_rule (fun m ρ s' => Keep s s' ∧ ρ 0 = .slice a l.length c ∧ ρ 1 = .slice b l.length d ∧ ∃ i : Nat, ρ 5 = .int .i64 i ∧ i ≤ l.length ∧ l.length - i ≤ m) ?_ l.length ?_
  · rintro m ρ s1 ⟨k1, q0, q1, i, q5, hi, hm⟩
    by_cases hlt : i < l.length
    · rcases h3 with h3 | ⟨r, e, ro, rfl, lr, gr⟩
      · omega
      rcases h4 with h4 | ⟨t, f, rp, rfl, lt, gt⟩
      · omega
      have gr1 := (k1.get r lr).trans gr
      have gt1 := (k1.get t lt).trans gt
      have hlt' : (i : Int) < l.length := by omega
      have hg : (l.map (Value.int .u64))[i]? = some (.int .u64 l[i]) := by simp [hlt]
      have hw : IntKind.i64.wrap ((i : Int) + 1) = i + 1 := w64 (by omega) (by omega)
      simp (disch := omega) [q0, q1, q5, hlt', gr1, gt1, hg, hw]
      exact ⟨m - 1, by omega, ⟨by have := k1.next; simp only; omega, fun n hn => by simp only; exact k1.get n hn⟩, i + 1, by simp, by omega, by omega⟩
    · have hlt' : ¬ (i : Int) < l.length := by omega
      simp (disch := omega) [q0, q1, q5, hlt']
      exact hq _ k1
  · simp (disch := omega)
    exact ⟨.refl s, 0, by simp⟩

theorem Stubs_ok (hP : POnly prim) (hq : Q (.bool true) s) : WC (tE prim) 28 [nilS, nilS] s Q := by
  refine WC_fn (fm28 prim (hP.no _)) rfl ?_
  simp (disch := omega) [m28]
  refine loop_exit ?_
  simp (disch := omega)
  exact hq
theorem Scions_ok (hP : POnly prim) (hq : Q (.bool true) s) : WC (tE prim) 29 [nilS, nilS] s Q := by
  refine WC_fn (fm29 prim (hP.no _)) rfl ?_
  simp (disch := omega) [m29]
  refine loop_exit ?_
  simp (disch := omega)
  exact hq
theorem Served_ok (hP : POnly prim) (hq : Q (.bool true) s) : WC (tE prim) 32 [nilS, nilS] s Q := by
  refine WC_fn (fm32 prim (hP.no _)) rfl ?_
  simp (disch := omega) [m32]
  refine loop_exit ?_
  simp (disch := omega)
  exact hq
theorem Nums0_ok (hP : POnly prim) (hq : ∀ s', Keep s s' → Q (.bool true) s') : WC (tE prim) 30 [nilS, nilS] s Q :=
  Numbers_ok hP (l := []) ⟨_, _, rfl, .inl rfl⟩ ⟨_, _, rfl, .inl rfl⟩ (by decide) hq

abbrev obV (k c : Int) (z1 z2 : Value) (i : Int) : Value := .agg #[.int .u64 k, .int .i64 c, z1, z2, .int .i64 i]

theorem RdS.cell {z : Value} {n : Nat} {vals : List Value} (h : RdS s z n vals) : isCell z = true ∧ cellsOf z = [z] := by
  obtain ⟨a, c, rfl, _⟩ := h
  exact ⟨rfl, rfl⟩

theorem Same_ok (hP : POnly prim) {k c i : Int} {z1 z2 y1 y2 : Value} {l : List (Int × Int)} {xs : List Int} (h1 : RdS s z1 l.length (idCells l)) (h2 : RdS s z2 xs.length (xs.map (.int .u64))) (j1 : RdS s y1 l.length (idCells l)) (j2 : RdS s y2 xs.length (xs.map (.int .u64)))
    (hl : l.length ≤ 4096) (hx : xs.length ≤ 4096) (hq : ∀ s', Keep s s' → Q (.bool true) s') : WC (tE prim) 81 [obV k c z1 z2 i, obV k c y1 y2 i] s Q := by
  refine WC_fn (fm81 prim (hP.no _)) rfl ?_
  have k0 : Keep s ⟨(s.heap.set s.next (.cells [.int .u64 k, .int .i64 c, z1, z2, .int .i64 i] none false)).set (s.next + 1) (.cells [.int .u64 k, .int .i64 c, y1, y2, .int .i64 i] none false), s.next + 1 + 1⟩ := ⟨by simp only; omega, fun n hn => by simp (disch := omega)⟩
  simp (disch := omega) [m81, h1.cell.1, h1.cell.2, h2.cell.1, h2.cell.2, j1.cell.1, j1.cell.2, j2.cell.1, j2.cell.2]
  refine IDs_ok hP (h1.keep k0) (j1.keep k0) hl fun s1 k1 => ?_
  have n1 := k1.next
  simp only at n1
  have g2 := k1.get s.next (by simp only; omega)
  have g3 := k1.get (s.next + 1) (by simp only; omega)
  simp (disch := omega) at g2 g3
  have kk := k0.trans k1
  simp (disch := omega) [g2, g3]
  refine Numbers_ok hP (h2.keep kk) (j2.keep kk) hx fun s2 k2 => ?_
  simp (disch := omega)
  exact hq _ (kk.trans k2)

end Go.Sh

namespace Go.Sh
open Go
open Go.Proofs

variable {prim : PrimF} {s : St} {Q : Value → St → Prop} {P : Lay} {ty : Nat → Ty} {ρ : Rho}

theorem obCells_get {l : List (OE × Nat × Nat)} {i : Nat} {x : OE × Nat × Nat} (h : l[i]? = some x) : takeN 5 ((obCells l).drop (i * 5)) =
    some [.int .u64 x.1.key, .int .i64 x.1.cell, .slice (some ⟨x.2.1, 0, none⟩) x.1.ids.length x.1.ids.length, .slice (some ⟨x.2.2, 0, none⟩) x.1.xs.length x.1.xs.length, .int .i64 x.1.i] := by
  induction l generalizing i with
  | nil => simp at h
  | cons y l ih =>
    cases i with
    | zero => simp at h; subst h; rfl
    | succ i =>
      have : (i + 1) * 5 = i * 5 + 1 + 1 + 1 + 1 + 1 := by omega
      rw [this]
      simp only [obCells, List.flatMap_cons, List.cons_append, List.nil_append, List.drop_succ_cons]
      exact ih (by simpa using h)

theorem callCells_get {l : List (CI × Nat × Nat)} {i : Nat} {x : CI × Nat × Nat} (h : l[i]? = some x) : takeN 15 ((callCells l).drop (i * 15)) = some (ciCells x.1 x.2.1 x.2.2) := by
  induction l generalizing i with
  | nil => simp at h
  | cons y l ih =>
    cases i with
    | zero => simp at h; subst h; rfl
    | succ i =>
      have : (i + 1) * 15 = i * 15 + 1 + 1 + 1 + 1 + 1 + 1 + 1 + 1 + 1 + 1 + 1 + 1 + 1 + 1 + 1 := by omega
      rw [this]
      simp only [callCells, List.flatMap_cons, List.cons_append, List.nil_append, List.drop_succ_cons]
      exact ih (by simpa using h)

theorem Objects_ok (hP : POnly prim) {x y : Value} {l l' : List (OE × Nat × Nat)} {lo lo' : Nat} (h1 : RdS s x l.length (obCells l)) (h2 : RdS s y l'.length (obCells l')) (hl : l.map (·.1) = l'.map (·.1)) (ho : ∀ x ∈ l, ObOk lo s x) (ho' : ∀ x ∈ l', ObOk lo' s x)
    (hn : l.length ≤ 4096) (hq : ∀ s', Keep s s' → Q (.bool true) s') : WC (tE prim) 27 [x, y] s Q := by
  refine WC_fn (fm27 prim (hP.no _)) rfl ?_
  have hlen : l'.length = l.length := by have := congrArg List.length hl; simpa using this.symm
  obtain ⟨a, c, rfl, h3⟩ := h1
  obtain ⟨b, d, rfl, h4⟩ := h2
  rw [hlen]
  rw [hlen] at h4
  simp (disch := omega) [m27]
  refine loop_rule (fun m ρ s' => Keep s s' ∧ ρ 0 = .slice a l.length c ∧ ρ 1 = .slice b l.length d ∧ ∃ i : Nat, ρ 5 = .int .i64 i ∧ i ≤ l.length ∧ l.length - i ≤ m) ?_ l.length ?_
  · rintro m ρ s1 ⟨k1, q0, q1, i, q5, hi, hm⟩
    by_cases hlt : i < l.length
    · rcases h3 with h3 | ⟨r, e, ro, rfl, lr, gr⟩
      · omega
      rcases h4 with h4 | ⟨t, f, rp, rfl, lt, gt⟩
      · omega
      have gr1 := (k1.get r lr).trans gr
      have gt1 := (k1.get t lt).trans gt
      have hlt' : (i : Int) < l.length := by omega
      have hg := obCells_get (l := l) (i := i) (x := l[i]) (by simp [hlt])
      have hg' := obCells_get (l := l') (i := i) (x := l'[i]) (by simp [hlen, hlt])
      have he : l'[i].1 = l[i].1 := by
        have : (l.map (·.1))[i]? = (l'.map (·.1))[i]? := by rw [hl]
        simpa [hlt, hlen] using this.symm
      rw [he] at hg'
      have w1 := ho _ (List.getElem_mem hlt)
      have w2 := ho' _ (List.getElem_mem (show i < l'.length by omega))
      obtain ⟨o1, v1⟩ := w1.h5
      obtain ⟨o2, v2⟩ := w1.h6
      obtain ⟨o3, v3⟩ := w2.h5
      obtain ⟨o4, v4⟩ := w2.h6
      rw [he] at v3 v4
      have b7 := w1.h7
      have b8 := w1.h8
      have hw : IntKind.i64.wrap ((i : Int) + 1) = i + 1 := w64 (by omega) (by omega)
      simp (disch := omega) [q0, q1, q5, hlt', gr1, gt1, hg, hg']
      have k2 : Keep s ⟨s1.heap, s1.next + 10⟩ := ⟨by have := k1.next; simp only; omega, fun n hn => by simp only; exact k1.get n hn⟩
      refine Same_ok hP (l := l[i].1.ids) (xs := l[i].1.xs) (RdS.keep ⟨_, _, rfl, .inr ⟨_, _, _, rfl, w1.h3, v1⟩⟩ k2) (RdS.keep ⟨_, _, rfl, .inr ⟨_, _, _, rfl, w1.h4, v2⟩⟩ k2)
        (RdS.keep ⟨_, _, rfl, .inr ⟨_, _, _, rfl, w2.h3, v3⟩⟩ k2) (RdS.keep ⟨_, _, rfl, .inr ⟨_, _, _, rfl, w2.h4, v4⟩⟩ k2) (by omega) (by omega) fun s3 k3 => ?_
      simp (disch := omega) [q0, q1, q5, hw]
      exact ⟨m - 1, by omega, k2.trans k3, i + 1, by simp, by omega, by omega⟩
    · have hlt' : ¬ (i : Int) < l.length := by omega
      simp (disch := omega) [q0, q1, q5, hlt']
      exact hq _ k1
  · simp (disch := omega)
    exact ⟨.refl s, 0, by simp⟩

set_option maxRecDepth 100000 in
theorem Call_ok (hP : POnly prim) {x : CI} {a b a' b' : Nat} (hq : ∀ s', Keep s s' → Q (.bool true) s') : WC (tE prim) 84 [.agg (ciCells x a b).toArray, .agg (ciCells x a' b').toArray] s Q := by
  refine WC_fn (fm84 prim (hP.no _)) rfl ?_
  have k0 : Keep s ⟨(s.heap.set s.next (.cells (ciCells x a b) none false)).set (s.next + 1) (.cells (ciCells x a' b') none false), s.next + 1 + 1⟩ := ⟨by simp only; omega, fun n hn => by simp (disch := omega)⟩
  simp (disch := omega) [m84]
  refine IDs_ok hP (l := []) ⟨_, _, rfl, .inl rfl⟩ ⟨_, _, rfl, .inl rfl⟩ (by decide) fun s1 k1 => ?_
  have n1 := k1.next
  simp only at n1
  have g2 := k1.get s.next (by simp only; omega)
  have g3 := k1.get (s.next + 1) (by simp only; omega)
  simp (disch := omega) at g2 g3
  have kk := k0.trans k1
  simp (disch := omega) [g2, g3]
  refine IDs_ok hP (l := []) ⟨_, _, rfl, .inl rfl⟩ ⟨_, _, rfl, .inl rfl⟩ (by decide) fun s2 k2 => ?_
  simp (disch := omega)
  exact hq _ (kk.trans k2)

theorem Calls_ok (hP : POnly prim) {x y : Value} {l l' : List (CI × Nat × Nat)} (h1 : RdS s x l.length (callCells l)) (h2 : RdS s y l'.length (callCells l')) (hl : l.map (·.1) = l'.map (·.1)) (hn : l.length ≤ 4096) (hq : ∀ s', Keep s s' → Q (.bool true) s') :
    WC (tE prim) 31 [x, y] s Q := by
  refine WC_fn (fm31 prim (hP.no _)) rfl ?_
  have hlen : l'.length = l.length := by have := congrArg List.length hl; simpa using this.symm
  obtain ⟨a, c, rfl, h3⟩ := h1
  obtain ⟨b, d, rfl, h4⟩ := h2
  rw [hlen]
  rw [hlen] at h4
  simp (disch := omega) [m31]
  refine loop_rule (fun m ρ s' => Keep s s' ∧ ρ 0 = .slice a l.length c ∧ ρ 1 = .slice b l.length d ∧ ∃ i : Nat, ρ 5 = .int .i64 i ∧ i ≤ l.length ∧ l.length - i ≤ m) ?_ l.length ?_
  · rintro m ρ s1 ⟨k1, q0, q1, i, q5, hi, hm⟩
    by_cases hlt : i < l.length
    · rcases h3 with h3 | ⟨r, e, ro, rfl, lr, gr⟩
      · omega
      rcases h4 with h4 | ⟨t, f, rp, rfl, lt, gt⟩
      · omega
      have gr1 := (k1.get r lr).trans gr
      have gt1 := (k1.get t lt).trans gt
      have hlt' : (i : Int) < l.length := by omega
      have hg := callCells_get (l := l) (i := i) (x := l[i]) (by simp [hlt])
      have hg' := callCells_get (l := l') (i := i) (x := l'[i]) (by simp [hlen, hlt])
      have he : l'[i].1 = l[i].1 := by
        have : (l.map (·.1))[i]? = (l'.map (·.1))[i]? := by rw [hl]
        simpa [hlt, hlen] using this.symm
      rw [he] at hg'
      have hw : IntKind.i64.wrap ((i : Int) + 1) = i + 1 := w64 (by omega) (by omega)
      simp (disch := omega) [q0, q1, q5, hlt', gr1, gt1, hg, hg']
      have k2 : Keep s ⟨s1.heap, s1.next + 10⟩ := ⟨by have := k1.next; simp only; omega, fun n hn => by simp only; exact k1.get n hn⟩
      refine Call_ok hP fun s3 k3 => ?_
      simp (disch := omega) [q0, q1, q5, hw]
      exact ⟨m - 1, by omega, k2.trans k3, i + 1, by simp, by omega, by omega⟩
    · have hlt' : ¬ (i : Int) < l.length := by omega
      simp (disch := omega) [q0, q1, q5, hlt']
      exact hq _ k1
  · simp (disch := omega)
    exact ⟨.refl s, 0, by simp⟩

theorem VCmp_ok (hP : POnly prim) (hL : LayOk P) {D : VD} {lo lo' : Nat} {now : Int} {v v' : Value} (h1 : ViewIs P D lo now s v) (h2 : ViewIs P D lo' now s v') (hids : ∀ m, m < P.mu → (D.ids m).length = P.sl) (hes : D.es.length ≤ 64) (hks : D.ks.length ≤ 64)
    (hq : ∀ s', Keep s s' → Q (.bool true) s') : WC (tE prim) 8 [v, v'] s Q := by
  refine WC_fn (fm8 prim (hP.no _)) rfl ?_
  obtain ⟨zS, zO, zC, rows, ol, lC, x, y, rfl, hx, hy, hS, hrows, hR, hO, hOk, hol, hC, hlC⟩ := h1.ex
  obtain ⟨yS, yO, yC, rows', ol', lC', x', y', rfl, hx', hy', hS', hrows', hR', hO', hOk', hol', hC', hlC'⟩ := h2.ex
  obtain rfl : x = x' := by rw [hx] at hx'; cases hx'; rfl
  obtain rfl : y = y' := by rw [hy] at hy'; cases hy'; rfl
  have hmu3 := hL.mu3
  have hsl := hL.sl1
  have e1 : rows.length = P.mu := by have := congrArg List.length hrows; simpa using this
  have e2 : rows'.length = P.mu := by have := congrArg List.length hrows'; simpa using this
  have e3 : ol.length ≤ 64 := by have := congrArg List.length hol; have h := obsTot_len (es := D.es); simp at this; omega
  have e4 : lC.length ≤ 64 := by have := congrArg List.length hlC; simp at this; omega
  have rS := hS.rd
  have rS' := hS'.rd
  rw [e1] at rS
  rw [e2] at rS'
  have rO := hO.rd
  have rO' := hO'.rd
  have rC := hC.rd
  have rC' := hC'.rd
  obtain ⟨a, c, rfl, h3⟩ := rS
  obtain ⟨b, d, rfl, h4⟩ := rS'
  have k0 : Keep s ⟨(s.heap.set s.next (.cells (viewL now (.slice a P.mu c) zO zC x y) none false)).set (s.next + 1) (.cells (viewL now (.slice b P.mu d) yO yC x y) none false), s.next + 1 + 1⟩ := ⟨by simp only; omega, fun n hn => by simp (disch := omega)⟩
  simp (disch := omega) [m8, rO.cell.1, rO.cell.2, rO'.cell.1, rO'.cell.2, rC.cell.1, rC.cell.2, rC'.cell.1, rC'.cell.2]
  generalize hsB : (St.mk _ _) = sB
  have kB : Keep s sB := by rw [← hsB]; exact k0
  have gB : sB.heap.get s.next = some (.cells (viewL now (.slice a P.mu c) zO zC x y) none false) := by rw [← hsB]; simp (disch := omega)
  have gB' : sB.heap.get (s.next + 1) = some (.cells (viewL now (.slice b P.mu d) yO yC x y) none false) := by rw [← hsB]; simp (disch := omega)
  have nB : sB.next = s.next + 1 + 1 := by rw [← hsB]
  refine loop_rule (fun m ρ s' => Keep sB s' ∧ ρ 2 = .pointer (some ⟨s.next, 0, none⟩) ∧ ρ 3 = .pointer (some ⟨s.next + 1, 0, none⟩) ∧ ∃ i : Nat, ρ 5 = .int .i64 i ∧ i ≤ P.mu ∧ P.mu - i ≤ m) ?_ P.mu ?_
  · rintro m ρ s1 ⟨k1, q2, q3, i, q5, hi, hm⟩
    have n1 := k1.next
    have g1 := (k1.get s.next (by omega)).trans gB
    have g1' := (k1.get (s.next + 1) (by omega)).trans gB'
    by_cases hlt : i < P.mu
    · rcases h3 with h3 | ⟨r, e, ro, rfl, lr, gr⟩
      · omega
      rcases h4 with h4 | ⟨t, f, rp, rfl, lt, gt⟩
      · omega
      have kk := kB.trans k1
      have gr1 := (kk.get r lr).trans gr
      have gt1 := (kk.get t lt).trans gt
      have hlt' : (i : Int) < P.mu := by omega
      have i1 : i < rows.length := by omega
      have i2 : i < rows'.length := by omega
      have f1 : (slotCells rows)[i]? = some (.slice (some ⟨rows[i].1, 0, none⟩) rows[i].2.length rows[i].2.length) := by simp [slotCells, i1]
      have f2 : (slotCells rows')[i]? = some (.slice (some ⟨rows'[i].1, 0, none⟩) rows'[i].2.length rows'[i].2.length) := by simp [slotCells, i2]
      have w1 : rows[i].2 = D.ids i := by
        have : (rows.map (·.2))[i]? = ((List.range P.mu).map D.ids)[i]? := by rw [hrows]
        simpa [i1, hlt] using this
      have w2 : rows'[i].2 = D.ids i := by
        have : (rows'.map (·.2))[i]? = ((List.range P.mu).map D.ids)[i]? := by rw [hrows']
        simpa [i2, hlt] using this
      obtain ⟨_, b1, b2⟩ := hR _ (List.getElem_mem i1)
      obtain ⟨_, b3, b4⟩ := hR' _ (List.getElem_mem i2)
      rw [w1] at f1 b2
      rw [w2] at f2 b4
      have hd := hids i hlt
      have hw : IntKind.i64.wrap ((i : Int) + 1) = i + 1 := w64 (by omega) (by omega)
      simp (disch := omega) [q2, q3, q5, g1, g1', hlt', gr1, gt1, f1, f2]
      have k2 : Keep s ⟨s1.heap, s1.next + 12⟩ := ⟨by have := kk.next; simp only; omega, fun n hn => by simp only; exact kk.get n hn⟩
      have k3 : Keep sB ⟨s1.heap, s1.next + 12⟩ := ⟨by simp only; omega, fun n hn => by simp only; exact k1.get n hn⟩
      refine IDs_ok hP (l := D.ids i) (RdS.keep ⟨_, _, rfl, .inr ⟨_, _, _, rfl, b1, b2⟩⟩ k2) (RdS.keep ⟨_, _, rfl, .inr ⟨_, _, _, rfl, b3, b4⟩⟩ k2) (by omega) fun s3 k4 => ?_
      simp (disch := omega) [q2, q3, q5, hw]
      exact ⟨m - 1, by omega, k3.trans k4, i + 1, by simp, by omega, by omega⟩
    · have hlt' : ¬ (i : Int) < P.mu := by omega
      have kk := kB.trans k1
      simp (disch := omega) [q2, q3, q5, g1, g1', hlt']
      have o1 : ∀ x ∈ ol, ObOk lo s1 x := fun x hx => (hOk x hx).move kk.next (kk.get _ (hOk x hx).h3) (kk.get _ (hOk x hx).h4)
      have o2 : ∀ x ∈ ol', ObOk lo' s1 x := fun x hx => (hOk' x hx).move kk.next (kk.get _ (hOk' x hx).h3) (kk.get _ (hOk' x hx).h4)
      refine Objects_ok hP (rO.keep kk) (rO'.keep kk) (by rw [hol, hol']) o1 o2 (by omega) fun s2 k2 => ?_
      have n2 := k2.next
      have g2 := (k2.get s.next (by omega)).trans g1
      have g2' := (k2.get (s.next + 1) (by omega)).trans g1'
      have kk := kk.trans k2
      simp (disch := omega) [q2, q3, g2, g2']
      refine Stubs_ok hP ?_
      simp (disch := omega) [q2, q3, g2, g2']
      refine Scions_ok hP ?_
      simp (disch := omega) [q2, q3, g2, g2']
      refine Nums0_ok hP fun s3 k3 => ?_
      have n3 := k3.next
      have g3 := (k3.get s.next (by omega)).trans g2
      have g3' := (k3.get (s.next + 1) (by omega)).trans g2'
      have kk := kk.trans k3
      simp (disch := omega) [q2, q3, g3, g3']
      refine Calls_ok hP (rC.keep kk) (rC'.keep kk) (by rw [hlC, hlC']) (by omega) fun s4 k4 => ?_
      have n4 := k4.next
      have g4 := (k4.get s.next (by omega)).trans g3
      have g4' := (k4.get (s.next + 1) (by omega)).trans g3'
      have kk := kk.trans k4
      simp (disch := omega) [q2, q3, g4, g4']
      refine Served_ok hP ?_
      simp (disch := omega)
      exact hq _ kk
  · simp (disch := omega)
    exact ⟨.refl sB, 0, by simp⟩

end Go.Sh
