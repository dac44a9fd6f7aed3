/-
  NodeTicks: what is shown of a node.
-/
import Derived.Test.YtnhofgbjmofcnaaGreatRVa

namespace Go.Sh
open Go
open Go.Proofs

variable {prim : PrimF} {s : St} {Q : Value → St → Prop} {P : Lay} {ty : Nat → Ty} {ρ : Rho}

/-! ### the objects' order -/
def cnt (es : List MapEntry) (x : Int) : Nat := ((keysOf es).filter (fun k => decide (x < k))).length

theorem foldl_min {l : List Int} : ∀ {a : Int}, l.foldl min a ≤ a ∧ (∀ b ∈ l, l.foldl min a ≤ b) ∧ (l.foldl min a = a ∨ l.foldl min a ∈ l) := by
  induction l with
  | nil => intro a; exact ⟨Int.le_refl _, (fun b h => by cases h), .inl rfl⟩
  | cons x l ih =>
    intro a
    obtain ⟨h1, h2, h3⟩ := ih (a := min a x)
    refine ⟨?_, fun b hb => ?_, ?_⟩
    · simp only [List.foldl_cons]; omega
    · simp only [List.foldl_cons]
      rcases List.mem_cons.1 hb with rfl | hb
      · omega
      · exact h2 b hb
    · simp only [List.foldl_cons]
      rcases h3 with h3 | h3
      · rw [h3]
        rcases Int.le_total a x with h | h
        · left; omega
        · right; rw [show min a x = x by omega]; exact List.mem_cons_self
      · exact .inr (List.mem_cons_of_mem _ h3)

theorem nextK_none {es : List MapEntry} {x : Int} (h : cnt es x = 0) : nextK es x = none := by
  unfold cnt at h
  unfold nextK
  rw [List.length_eq_zero_iff.1 h]

theorem nextK_some {es : List MapEntry} {x k : Int} (h : nextK es x = some k) : x < k ∧ k ∈ keysOf es ∧ cnt es k < cnt es x := by
  unfold nextK at h
  have hk : k ∈ (keysOf es).filter (fun k => decide (x < k)) := by
    cases hl : (keysOf es).filter (fun k => decide (x < k)) with
    | nil => rw [hl] at h; cases h
    | cons a l =>
      rw [hl] at h
      simp only [Option.some.injEq] at h
      rcases (foldl_min (l := l) (a := a)).2.2 with h' | h'
      · rw [← h, h']; exact List.mem_cons_self
      · rw [← h]; exact List.mem_cons_of_mem _ h'
  obtain ⟨h1, h2⟩ := List.mem_filter.1 hk
  have h2 : x < k := by simpa using h2
  refine ⟨h2, h1, ?_⟩
  unfold cnt
  have e : (keysOf es).filter (fun j => decide (k < j)) = ((keysOf es).filter (fun j => decide (x < j))).filter (fun j => decide (k < j)) := by
    rw [List.filter_filter]
    congr 1
    funext j
    by_cases hj : k < j
    · simp [hj]; omega
    · simp [hj]
  rw [e]
  rcases Nat.lt_or_eq_of_le (List.length_filter_le (fun j => decide (k < j)) ((keysOf es).filter (fun j => decide (x < j)))) with h | h
  · exact h
  · exfalso
    have := List.length_filter_eq_length_iff.1 h k hk
    simp at this

def obsFrom (es : List MapEntry) : Nat → Int → List Int
  | 0, _ => []
  | f + 1, x => match nextK es x with
    | none => []
    | some k => k :: obsFrom es f k

theorem mem_keys {es : List MapEntry} {k : Int} (h : k ∈ keysOf es) : ∃ e ∈ es, e.key = .int .u64 k := by
  unfold keysOf at h
  obtain ⟨e, h1, h2⟩ := List.mem_filterMap.1 h
  refine ⟨e, h1, ?_⟩
  split at h2
  · rename_i k' hk
    cases h2; exact hk
  · cases h2

theorem MapAt.found {es : List MapEntry} {c : Nat} (h : MapAt P ty s es c) {k : Int} (hk : k ∈ keysOf es) : ∃ t, lkE es k = .pointer (some ⟨t, 0, none⟩) ∧ ty t = .thing := by
  rcases h.lk k with hn | ht
  · exfalso
    obtain ⟨e, he, hke⟩ := mem_keys hk
    unfold lkE at hn
    cases hf : es.find? (isKey k) with
    | none =>
      have := List.find?_eq_none.1 hf e he
      simp [isKey, hke] at this
    | some e' =>
      rw [hf] at hn
      obtain ⟨k', t, _, h2, _⟩ := h.ent e' (List.mem_of_find?_eq_some hf)
      simp only [h2] at hn; cases hn
  · exact ht

/-- As Keep, but for one name. -/
structure KeepB (b : Nat) (s s' : St) : Prop where
  next : s.next ≤ s'.next
  get : ∀ n, n < s.next → n ≠ b → s'.heap.get n = s.heap.get n

theorem nxt_ok (hP : POnly prim) (hI : Inv P ty s) {D : VD} (hD : Dat P ty s D) {x : Int} (hq : Q (.tuple #[.int .u64 ((nextK D.es x).getD 0), .bool (nextK D.es x).isSome]) s) : WC (tE prim) 40 [P.p 1, .int .u64 x] s Q := by
  obtain ⟨o1, h1, last, rfl⟩ := hI.fixed 1 (.inl (by decide))
  have hall : D.es.all u64Key = true := by
    rw [List.all_eq_true]
    intro e he
    obtain ⟨k, hk⟩ := hD.map.key e he
    unfold u64Key; rw [hk]
  refine WC_prim (E := tE prim) (v := .tuple #[.int .u64 ((nextK D.es x).getD 0), .bool (nextK D.es x).isSome]) (s' := s) hP.nxt ?_ hq
  simp only [nxtP, h1, List.getElem?_cons_succ, List.getElem?_cons_zero, hD.map.get, hall, cond_true]

/-! ### literals of one element -/
theorem run_lit55 {a : Nat} {nm : Option Nat} : opRun (tE prim) (evO ρ) (gop (.buildSlice 55 1 #[(0, .tmp a)])) nm s = opRun (tE prim) (fun _ => some (ρ a)) (gop (.buildSlice 55 1 #[(0, .tmp 0)])) nm s := rfl
theorem lit55_n {a b : Int} : opRun (tE prim) (fun _ => some (idV a b)) (gop (.buildSlice 55 1 #[(0, .tmp 0)])) none s = some (.slice (some ⟨s.next, 0, none⟩) 1 1, { heap := s.heap.set s.next (.cells [.int .i64 a, .int .u64 b] none false), next := s.next + 1 }) := rfl
theorem run_lit32 {a : Nat} {nm : Option Nat} : opRun (tE prim) (evO ρ) (gop (.buildSlice 32 1 #[(0, .tmp a)])) nm s = opRun (tE prim) (fun _ => some (ρ a)) (gop (.buildSlice 32 1 #[(0, .tmp 0)])) nm s := rfl
theorem lit32_n {a : Option Addr} {n c : Nat} : opRun (tE prim) (fun _ => some (.slice a n c)) (gop (.buildSlice 32 1 #[(0, .tmp 0)])) none s = some (.slice (some ⟨s.next, 0, none⟩) 1 1, { heap := s.heap.set s.next (.cells [.slice a n c] none false), next := s.next + 1 }) := rfl
theorem run_lit33 {a : Nat} {nm : Option Nat} : opRun (tE prim) (evO ρ) (gop (.buildSlice 33 1 #[(0, .tmp a)])) nm s = opRun (tE prim) (fun _ => some (ρ a)) (gop (.buildSlice 33 1 #[(0, .tmp 0)])) nm s := rfl
theorem lit33_n {a b e : Int} {c d : Option Addr} {cn cm dn dm : Nat} : opRun (tE prim) (fun _ => some (.agg #[.int .u64 a, .int .i64 b, .slice c cn cm, .slice d dn dm, .int .i64 e])) (gop (.buildSlice 33 1 #[(0, .tmp 0)])) none s = some (.slice (some ⟨s.next, 0, none⟩) 1 1, { heap := s.heap.set s.next (.cells [.int .u64 a, .int .i64 b, .slice c cn cm, .slice d dn dm, .int .i64 e] none false), next := s.next + 1 }) := rfl

attribute [local simp] run_lit55 lit55_n run_lit32 lit32_n run_lit33 lit33_n

abbrev nilS : Value := .slice none 0 0
abbrev viewL (now : Int) (zS zO zC : Value) (x y : Int) : List Value := [.int .u64 now, .int .u64 0, .int .i64 0, .int .i64 0, zS, zO, nilS, nilS, nilS, zC, nilS, .int .u64 x, .int .i64 y]

def slotCells (l : List (Nat × List (Int × Int))) : List Value := l.map fun x => .slice (some ⟨x.1, 0, none⟩) x.2.length x.2.length
def RowsOk (lo : Nat) (s : St) (l : List (Nat × List (Int × Int))) : Prop := ∀ x ∈ l, lo ≤ x.1 ∧ x.1 < s.next ∧ s.heap.get x.1 = some (.cells (idCells x.2) (some 2) false)

theorem SL.key {k k' lo n r : Nat} {z : Value} {vals c : List Value} (h : SL k lo s z n vals) (hr : s.heap.get r = some (.cells c (some k') false)) (hne : k' ≠ k) : ¬ rowAt z r := by
  intro hz
  cases h with
  | nil => exact hz
  | row r' n vals h1 h2 h3 h4 =>
    have hz : r' = r := hz
    rw [hz, hr] at h3
    simp only [Option.some.injEq, AObj.cells.injEq] at h3
    exact hne h3.2.1

def obCells (l : List (OE × Nat × Nat)) : List Value := l.flatMap fun x => [.int .u64 x.1.key, .int .i64 x.1.cell, .slice (some ⟨x.2.1, 0, none⟩) x.1.ids.length x.1.ids.length, .slice (some ⟨x.2.2, 0, none⟩) x.1.xs.length x.1.xs.length, .int .i64 x.1.i]

theorem obCells_len (l : List (OE × Nat × Nat)) : (obCells l).length = l.length * 5 := by
  induction l with
  | nil => rfl
  | cons x l ih => simp [obCells] at ih ⊢; omega

structure ObOk (lo : Nat) (s : St) (x : OE × Nat × Nat) : Prop where
  h1 : lo ≤ x.2.1
  h2 : lo ≤ x.2.2
  h3 : x.2.1 < s.next
  h4 : x.2.2 < s.next
  h5 : ∃ o, s.heap.get x.2.1 = some (.cells (idCells x.1.ids) o false)
  h6 : ∃ o, s.heap.get x.2.2 = some (.cells (x.1.xs.map (.int .u64)) o false)
  h7 : x.1.ids.length ≤ 7
  h8 : x.1.xs.length ≤ 7

theorem ObOk.move {lo : Nat} {s s' : St} {x : OE × Nat × Nat} (h : ObOk lo s x) (hn : s.next ≤ s'.next) (e1 : s'.heap.get x.2.1 = s.heap.get x.2.1) (e2 : s'.heap.get x.2.2 = s.heap.get x.2.2) : ObOk lo s' x :=
  ⟨h.h1, h.h2, Nat.lt_of_lt_of_le h.h3 hn, Nat.lt_of_lt_of_le h.h4 hn, by rw [e1]; exact h.h5, by rw [e2]; exact h.h6, h.h7, h.h8⟩

theorem obsFrom_len {es : List MapEntry} : ∀ {f : Nat} {x : Int}, (obsFrom es f x).length ≤ cnt es x
  | 0, _ => Nat.zero_le _
  | f + 1, x => by
    unfold obsFrom
    cases h : nextK es x with
    | none => exact Nat.zero_le _
    | some k =>
      have := (nextK_some h).2.2
      have := obsFrom_len (es := es) (f := f) (x := k)
      simp only [List.length_cons]; omega

theorem cnt_le {es : List MapEntry} {x : Int} : cnt es x ≤ es.length :=
  Nat.le_trans (List.length_filter_le _ _) (by unfold keysOf; exact List.length_filterMap_le _ _)

def obsTot (es : List MapEntry) : List Int := match nextK es 0 with
  | none => []
  | some k => k :: obsFrom es es.length k

def more (es : List MapEntry) (b : Bool) (k : Int) (f : Nat) : List Int := match b with
  | true => k :: obsFrom es f k
  | false => []

theorem obsTot_len {es : List MapEntry} : (obsTot es).length ≤ es.length := by
  unfold obsTot
  cases h : nextK es 0 with
  | none => exact Nat.zero_le _
  | some k =>
    have h1 := (nextK_some h).2.2
    have h2 := obsFrom_len (es := es) (f := es.length) (x := k)
    have h3 := cnt_le (es := es) (x := 0)
    simp only [List.length_cons]; omega

theorem gid_at {l : List (Int × Int)} {n : Nat} (h : n < l.length) : gid l (n : Int) = l[n] := by
  unfold gid
  rw [if_pos ⟨by omega, by omega⟩]
  simp [List.getD_eq_getElem?_getD, h]

/-- What is shown: the same but for the time, wherever it lies. -/
structure ViewIs (P : Lay) (D : VD) (lo : Nat) (now : Int) (s : St) (v : Value) : Prop where
  ex : ∃ (zS zO zC : Value) (rows : List (Nat × List (Int × Int))) (ol : List (OE × Nat × Nat)) (lC : List (CI × Nat × Nat)) (x y : Int), v = .agg (viewL now zS zO zC x y).toArray ∧
    (P.row 21)[23]? = some (.int .u64 x) ∧ (P.row 21)[24]? = some (.int .i64 y) ∧
    SL 1 lo s zS rows.length (slotCells rows) ∧ rows.map (·.2) = (List.range P.mu).map D.ids ∧ RowsOk lo s rows ∧
    SL 5 lo s zO ol.length (obCells ol) ∧ (∀ x ∈ ol, ObOk lo s x) ∧ ol.map (·.1) = (obsTot D.es).map D.ob ∧
    SL 15 lo s zC lC.length (callCells lC) ∧ lC.map (·.1) = D.ks.map (ciAt P D)

theorem ViewIs.keep {D : VD} {lo : Nat} {now : Int} {s' : St} {v : Value} (h : ViewIs P D lo now s v) (hk : Keep s s') : ViewIs P D lo now s' v := by
  obtain ⟨zS, zO, zC, rows, ol, lC, x, y, h1, h2, h3, h4, h5, h6, h7, h8, h9, h10, h11⟩ := h.ex
  refine ⟨zS, zO, zC, rows, ol, lC, x, y, h1, h2, h3, h4.mono hk.next (fun r _ hr => hk.get r hr), h5, fun x hx => ?_, h7.mono hk.next (fun r _ hr => hk.get r hr), fun x hx => ?_, h9, h10.mono hk.next (fun r _ hr => hk.get r hr), h11⟩
  · obtain ⟨a1, a2, a3⟩ := h6 x hx
    exact ⟨a1, Nat.lt_of_lt_of_le a2 hk.next, by rw [hk.get _ a2]; exact a3⟩
  · exact (h8 x hx).move hk.next (hk.get _ (h8 x hx).h3) (hk.get _ (h8 x hx).h4)

set_option maxHeartbeats 1600000 in
theorem View_ok (hP : POnly prim) (hL : LayOk P) (hI : Inv P ty s) {D : VD} (hD : Dat P ty s D) (hq : ∀ v s', Keep s s' → ViewIs P D (s.next + 1) P.now s' v → Q v s') :
    WC (tE prim) 9 [P.p 0] s Q := by
  refine WC_fn (fm9 prim (hP.no _)) rfl ?_
  obtain ⟨c, hc0, hc1, hc2, h0⟩ := hL.n
  have hn := hI.const 0 (by decide)
  rw [h0] at hn
  have ln := hI.ltn 0 (.inl (by decide))
  have hsl := hL.sl1
  have hmu3 := hL.mu3
  have hslp := hL.slp
  have hob := hL.ob1
  have k0 : Keep s ⟨s.heap.set s.next (.cells [.int .u64 0, .int .u64 0, .int .i64 0, .int .i64 0, .slice none 0 0, .slice none 0 0, .slice none 0 0, .slice none 0 0, .slice none 0 0, .slice none 0 0, .slice none 0 0, .int .u64 0, .int .i64 0] none false), s.next + 1 + 41⟩ := ⟨by simp only; omega, fun n hn => by simp (disch := omega)⟩
  have hI0 := hI.keep k0
  have hD0 := hD.keep hI k0
  simp (disch := omega) [m9, hn]
  refine Now_ok hP hI0 ?_
  simp (disch := omega) [hn]
  refine State_ok hP hL hI0 ?_
  simp (disch := omega) [hn]
  refine All35_ok hP hL hI0 fun s1 k1 => ?_
  have n1 := k1.next
  simp only at n1
  have kk1 := k0.trans k1
  have hn1 := (kk1.get (P.nm 0) ln).trans hn
  simp (disch := omega) [hn1]
  refine All36_ok hP hL (hI.keep kk1) fun s2 k2 => ?_
  have n2 := k2.next
  have kk2 := kk1.trans k2
  have hn2 := (kk2.get (P.nm 0) ln).trans hn
  simp (disch := omega) [hn2]
  refine All37_ok hP hL (hI.keep kk2) (hD.keep hI kk2) fun zC lC s3 k3 hC hlC => ?_
  have n3 := k3.next
  have kk3 := kk2.trans k3
  have hn3 := (kk3.get (P.nm 0) ln).trans hn
  simp (disch := omega) [hn3]
  refine All38_ok hP hL (hI.keep kk3) fun s4 k4 => ?_
  have n4 := k4.next
  have kk4 := kk3.trans k4
  have hn4 := (kk4.get (P.nm 0) ln).trans hn
  have cC := hC.cell
  simp (disch := omega) [hn4, cC.1, cC.2]
  have hb3 : s.next ≤ s.next + 1 + 39 := by omega
  have g2 : s4.heap.get s.next = some (.cells (viewL 0 nilS nilS nilS 0 0) none false) := by
    rw [k4.get _ (by omega), k3.get _ (by omega), k2.get _ (by omega), k1.get _ (by simp only; omega)]; simp
  generalize hb : s.next + 1 + 39 = b3
  have hC4 : SL 15 (s.next + 1 + 41) s4 zC lC.length (callCells lC) := (hC.mono k4.next (fun r _ hr => k4.get r hr)).lower (by omega)
  refine loop_rule (fun m ρ s' => KeepB b3 s4 s' ∧ ρ 0 = P.p 0 ∧ ρ 2 = .pointer (some ⟨s.next, 0, none⟩) ∧ ρ 3 = .pointer (some ⟨b3, 0, none⟩) ∧ ∃ (zS : Value) (rows : List (Nat × List (Int × Int))), s'.heap.get b3 = some (.cells (viewL P.now zS nilS zC 0 0) none false) ∧
    SL 1 s4.next s' zS rows.length (slotCells rows) ∧ rows.map (·.2) = (List.range rows.length).map D.ids ∧ ρ 4 = .int .i64 rows.length ∧ rows.length ≤ P.mu ∧ P.mu - rows.length ≤ m ∧ RowsOk s4.next s' rows) ?_ P.mu ?_
  · rintro m ρ s5 ⟨k5, r0, r2, r3, zS, rows, gb, hS, hrows, r4, hle, hm, hR⟩
    have n5 := k5.next
    have K5 : Keep s s5 := ⟨by omega, fun n hn => by rw [k5.get n (by omega) (by omega), kk4.get n hn]⟩
    have hn5 := (K5.get (P.nm 0) ln).trans hn
    by_cases hlt : rows.length < P.mu
    · have hlt' : (rows.length : Int) < c 1 := by omega
      have hslot := hD.slots rows.length hlt
      simp (disch := omega) [r0, r4, hn5, hlt']
      refine loop_rule (fun m2 ρ2 s' => Keep s5 s' ∧ ρ2 0 = P.p 0 ∧ ρ2 2 = .pointer (some ⟨s.next, 0, none⟩) ∧ ρ2 3 = .pointer (some ⟨b3, 0, none⟩) ∧ ρ2 4 = .int .i64 rows.length ∧ ∃ (z : Value) (l : List (Int × Int)), ρ2 5 = z ∧
        SL 2 s5.next s' z l.length (idCells l) ∧ l = (D.ids rows.length).take l.length ∧ ρ2 6 = .int .i64 l.length ∧ l.length ≤ P.sl ∧ P.sl - l.length ≤ m2) ?_ P.sl ?_
      · rintro m2 ρ2 s6 ⟨k6, q0, q2, q3, q4, z, l, q5, hZ, hl, q6, hle2, hm2⟩
        have n6 := k6.next
        have K6 := K5.trans k6
        have hn6 := (K6.get (P.nm 0) ln).trans hn
        by_cases hlt2 : l.length < P.sl
        · have hlt2' : (l.length : Int) < c 2 := by omega
          have u : P.use (25 + rows.length) := .inr ⟨by omega, by omega⟩
          have hs6 : s6.heap.get (P.nm (25 + rows.length)) = _ := (K6.get _ (hI.ltn _ u)).trans hslot.1
          simp (disch := omega) [q0, q4, q6, hn6, hlt2']
          refine at_ok hP hL (hI.keep K6) hlt hs6 hslot.2 fun s7 k7 => ?_
          have n7 := k7.next
          rw [gid_at (by omega)]
          simp (disch := omega) [q5]
          have hZ7 : SL 2 s5.next ⟨s7.heap.set s7.next (.cells (idL (D.ids rows.length)[l.length].1 (D.ids rows.length)[l.length].2) none false), s7.next + 1⟩ z l.length (idCells l) :=
            hZ.mono (by simp only; omega) (fun r _ hr => by simp (disch := omega) [k7.get r hr])
          refine app_run sl55 hZ7 (by simp (disch := omega); rfl) rfl rfl (by omega) fun s8 n8 g8 h8 => ?_
          simp only at n8 g8 h8
          have k8 : Keep s5 s8 := ⟨by omega, fun n hn => by
            rw [h8 n (by omega) (hZ7.notAt hn)]
            simp (disch := omega) [k7.get n (by omega), k6.get n hn]⟩
          have hw : IntKind.i64.wrap ((l.length : Int) + 1) = l.length + 1 := w64 (by omega) (by omega)
          simp (disch := omega) [q0, q2, q3, q4, q6, hw]
          refine ⟨m2 - 1, by omega, k8, l ++ [(D.ids rows.length)[l.length]], ?_, ?_, ?_, ?_, ?_⟩
          · have := SL.row (k := 2) (lo := s5.next) (s := s8) (s7.next + 1) (l.length + 1) (idCells (l ++ [(D.ids rows.length)[l.length]])) (by omega) (by omega) (by rw [g8]; simp [idCells]) (by rw [idCells_len]; simp; omega)
            simpa using this
          · rw [List.length_append, List.length_singleton, List.take_add_one, ← hl]
            simp [show l.length < (D.ids rows.length).length by omega]
          · simp
          · simp; omega
          · simp; omega
        · have hlt2' : ¬ (l.length : Int) < c 2 := by omega
          have hfull : l = D.ids rows.length := by rw [hl, show l.length = (D.ids rows.length).length by omega, List.take_length]
          simp (disch := omega) [q0, q3, q4, q5, q6, hn6, hlt2']
          have gb6 := (k6.get b3 (by omega)).trans gb
          have hS6 : SL 1 s4.next s6 zS rows.length (slotCells rows) := hS.mono n6 (fun r _ hr => k6.get r hr)
          rcases hZ.inv with ⟨hz0, _, _⟩ | ⟨r, rfl, hr1, hr2, hr3⟩
          · exfalso; omega
          · simp (disch := omega) [gb6, q5]
            refine app_run sl32 (m := s6.next) (xs := [.slice (some ⟨r, 0, none⟩) l.length l.length]) (hS6.mono (s' := ⟨s6.heap.set s6.next (.cells [.slice (some ⟨r, 0, none⟩) l.length l.length] none false), s6.next + 1⟩) (by simp only; omega) (fun r _ hr => by simp (disch := omega))) (by simp (disch := omega)) rfl rfl (by omega) fun s7 n7 g7 h7 => ?_
            simp only at n7 g7 h7
            have hlb : b3 < s4.next := by omega
            have gb7 := h7 b3 (by omega) (hS.notAt hlb)
            simp (disch := omega) [gb6] at gb7
            have hw : IntKind.i64.wrap ((rows.length : Int) + 1) = rows.length + 1 := w64 (by omega) (by omega)
            simp (disch := omega) [gb7, q0, q2, q3, q4, hw]
            refine ⟨m - 1, by omega, ⟨by simp only; omega, fun n hn hne => ?_⟩, rows ++ [(r, l)], ?_, ?_, ?_, ?_, ?_, ?_⟩
            · rw [get_other hne, h7 n (by omega) (hS.notAt hn)]
              simp (disch := omega) [k6.get n (by omega), k5.get n hn hne]
            · have := SL.row (k := 1) (lo := s4.next) (s := ⟨s7.heap.set b3 (.cells (viewL P.now (.slice (some ⟨s6.next + 1, 0, none⟩) (rows.length + 1) (rows.length + 1)) nilS zC 0 0) none false), s7.next⟩) (s6.next + 1) (rows.length + 1) (slotCells (rows ++ [(r, l)]))
                (by omega) (by simp only; omega) (by rw [get_other (by omega), g7]; simp [slotCells]) (by simp [slotCells])
              simpa using this
            · simp [hrows, List.range_succ, ← hfull]
            · simp
            · simp; omega
            · simp; omega
            · intro x hx
              rcases List.mem_append.1 hx with hx | hx
              · obtain ⟨a1, a2, a3⟩ := hR x hx
                have a6 := (k6.get x.1 a2).trans a3
                refine ⟨a1, by simp only; omega, ?_⟩
                rw [get_other (by omega), h7 x.1 (by omega) (hS6.key a6 (by decide))]
                simp (disch := omega) [a6]
              · rw [List.mem_singleton.1 hx]
                refine ⟨by simp only; omega, by simp only; omega, ?_⟩
                rw [get_other (by simp only; omega), h7 r (by omega) (hS6.key hr3 (by decide))]
                simp (disch := omega) [hr3]
      · simp (disch := omega) [r0, r2, r3, r4]
        exact ⟨.refl s5, [], .nil, by simp, by simp, by simp⟩
    · have hlt' : ¬ (rows.length : Int) < c 1 := by omega
      have hI5 := hI.keep K5
      have hD5 := hD.keep hI K5
      simp (disch := omega) [r0, r4, hn5, hlt']
      refine nxt_ok hP hI5 hD5 ?_
      simp (disch := omega)
      have hes := hD.map.len
      have htl := obsTot_len (es := D.es)
      refine loop_rule (fun m ρ s' => KeepB b3 s5 s' ∧ ρ 0 = P.p 0 ∧ ρ 2 = .pointer (some ⟨s.next, 0, none⟩) ∧ ρ 3 = .pointer (some ⟨b3, 0, none⟩) ∧ ∃ (zO : Value) (ol : List (OE × Nat × Nat)), s'.heap.get b3 = some (.cells (viewL P.now zS zO zC 0 0) none false) ∧
        SL 5 s5.next s' zO ol.length (obCells ol) ∧ (∀ x ∈ ol, ObOk s5.next s' x ∧ ¬ rowAt zO x.2.1 ∧ ¬ rowAt zO x.2.2) ∧
        ∃ (k : Int) (b : Bool) (f : Nat), ρ 7 = .int .u64 k ∧ ρ 8 = .bool b ∧ ol.map (·.1) ++ (more D.es b k f).map D.ob = (obsTot D.es).map D.ob ∧ (b = true → k ∈ keysOf D.es ∧ cnt D.es k ≤ f ∧ f + 1 ≤ m)) ?_ (D.es.length + 1) ?_
      · rintro m ρ s6 ⟨k6, r0, r2, r3, zO, ol, gb6, hO, hOk, k, b, f, r7, r8, htot, hb⟩
        have n6 := k6.next
        have K6 : Keep s s6 := ⟨by omega, fun n hn => by rw [k6.get n (by omega) (by omega), K5.get n hn]⟩
        have hn6 := (K6.get (P.nm 0) ln).trans hn
        have hI6 := hI.keep K6
        have hD6 := hD.keep hI K6
        cases b with
        | true =>
          obtain ⟨hmem, hcf, hfm⟩ := hb rfl
          obtain ⟨t, ht, htt⟩ := hD.map.found hmem
          have hol : ol.length + 1 ≤ 64 := by
            have := congrArg List.length htot
            simp [more] at this
            omega
          simp (disch := omega) [r0, r7, r8, hn6]
          refine Object_ok hP hL hI6 hD6 ht fun r v o o' s7 k7 lr lv hr hv gr gv => ?_
          have n7 := k7.next
          have gb7 := (k7.get b3 (by omega)).trans gb6
          simp (disch := omega) [r3, gb7]
          have xk := hD.key k
          have hO7 : SL 5 s5.next s7 zO ol.length (obCells ol) := hO.mono n7 (fun r _ hr => k7.get r hr)
          refine app_run sl33 (m := s7.next + 1) (xs := [.int .u64 k, .int .i64 (D.ob k).cell, .slice (some ⟨r, 0, none⟩) (D.ob k).ids.length (D.ob k).ids.length, .slice (some ⟨v, 0, none⟩) (D.ob k).xs.length (D.ob k).xs.length, .int .i64 (D.ob k).i])
            (hO7.mono (by simp only; omega) (fun r _ hr => by simp (disch := omega))) (by simp (disch := omega)) rfl rfl (by omega) fun s8 n8 g8 h8 => ?_
          simp only at n8 g8 h8
          have gb8 := h8 b3 (by omega) (hO.notAt (by omega))
          simp (disch := omega) [gb7] at gb8
          have G8 : ∀ n, n < s7.next → n ≠ b3 → ¬ rowAt zO n → (s8.heap.set b3 (.cells (viewL P.now zS (.slice (some ⟨s7.next + 1 + 1, 0, none⟩) (ol.length + 1) (ol.length + 1)) zC 0 0) none false)).get n = s7.heap.get n := fun n hn hne hz => by
            rw [get_other hne, h8 n (by omega) hz]
            simp (disch := omega)
          have K8 : Keep s ⟨s8.heap.set b3 (.cells (viewL P.now zS (.slice (some ⟨s7.next + 1 + 1, 0, none⟩) (ol.length + 1) (ol.length + 1)) zC 0 0) none false), s8.next⟩ :=
            ⟨by simp only; omega, fun n hn => by simp only; rw [G8 n (by omega) (by omega) (hO.notAt (by omega)), k7.get n (by omega), K6.get n hn]⟩
          have hn8 := (K8.get (P.nm 0) ln).trans hn
          simp only at hn8
          simp (disch := omega) [r0, r3, r7, gb8, hn8]
          refine Buried_ok hP hL (hI.keep K8) ?_
          simp (disch := omega) [r0, r7, hn8]
          refine nxt_ok hP (hI.keep K8) (hD.keep hI K8) ?_
          simp (disch := omega) [r0, r2, r3]
          refine ⟨m - 1, by omega, ⟨by simp only; omega, fun n hn hne => ?_⟩, ol ++ [(D.ob k, r, v)], ?_, ?_, ?_⟩
          · simp only
            rw [G8 n (by omega) hne (hO.notAt hn), k7.get n (by omega), k6.get n hn hne]
          · have := SL.row (k := 5) (lo := s5.next) (s := ⟨s8.heap.set b3 (.cells (viewL P.now zS (.slice (some ⟨s7.next + 1 + 1, 0, none⟩) (ol.length + 1) (ol.length + 1)) zC 0 0) none false), s8.next⟩) (s7.next + 1 + 1) (ol.length + 1) (obCells (ol ++ [(D.ob k, r, v)]))
                (by omega) (by simp only; omega) (by rw [get_other (by omega), g8]; simp [obCells, xk]) (by rw [obCells_len]; simp)
            simpa using this
          · intro a p q hx
            rcases List.mem_append.1 hx with hx | hx
            · obtain ⟨hx1, hx2, hx3⟩ := hOk _ hx
              have a1 := hx1.h1
              have a2 := hx1.h2
              have a3 := hx1.h3
              have a4 := hx1.h4
              simp only at a1 a2 a3 a4 hx2 hx3
              refine ⟨hx1.move (by simp only; omega) ?_ ?_, fun hz => ?_, fun hz => ?_⟩
              · simp only
                rw [G8 p (by omega) (by omega) hx2, k7.get p a3]
              · simp only
                rw [G8 q (by omega) (by omega) hx3, k7.get q a4]
              · have hz : s7.next + 1 + 1 = p := hz
                omega
              · have hz : s7.next + 1 + 1 = q := hz
                omega
            · have hx := List.mem_singleton.1 hx
              simp only [Prod.mk.injEq] at hx
              obtain ⟨rfl, rfl, rfl⟩ := hx
              have hob := hD.ob k t ht
              refine ⟨⟨by simp only; omega, by simp only; omega, by simp only; omega, by simp only; omega, ⟨o, ?_⟩, ⟨o', ?_⟩, hob.ids7, hob.xs7⟩, fun hz => ?_, fun hz => ?_⟩
              · simp only
                rw [G8 p hr (by omega) (hO.notGe lr), gr]
              · simp only
                rw [G8 q hv (by omega) (hO.notGe lv), gv]
              · have hz : s7.next + 1 + 1 = p := hz
                omega
              · have hz : s7.next + 1 + 1 = q := hz
                omega
          · cases hk : nextK D.es k with
            | none =>
              left
              refine ⟨rfl, f, ?_⟩
              rw [← htot]
              have : obsFrom D.es f k = [] := by
                cases f with
                | zero => rfl
                | succ f => unfold obsFrom; rw [hk]
              simp [more, this]
            | some k' =>
              right
              obtain ⟨j1, j2, j3⟩ := nextK_some hk
              obtain ⟨f, rfl⟩ : ∃ f', f = f' + 1 := ⟨f - 1, by omega⟩
              refine ⟨rfl, f, ?_, j2, by simp only [Option.getD_some]; omega, by omega⟩
              rw [← htot]
              have : obsFrom D.es (f + 1) k = k' :: obsFrom D.es f k' := by
                conv => lhs; unfold obsFrom
                rw [hk]
              simp [more, this]
        | false =>
          simp (disch := omega) [r0, r8, hn6]
          obtain ⟨x, hx⟩ := hL.tr1
          obtain ⟨y, hy⟩ := hL.tr2
          refine Count_ok hP hL hI6 hx hy fun s7 k7 => ?_
          have n7 := k7.next
          have gb7 := (k7.get b3 (by omega)).trans gb6
          have g27 : s7.heap.get s.next = some (.cells (viewL 0 nilS nilS nilS 0 0) none false) := by
            rw [k7.get _ (by omega), k6.get _ (by omega) (by omega), k5.get _ (by omega) (by omega), g2]
          simp (disch := omega) [r2, r3, gb7, g27]
          have cS := hS.cell
          have cO := hO.cell
          simp (disch := omega) [r2, r3, gb7, g27, cS.1, cS.2, cO.1, cO.2, cC.1, cC.2]
          have fin : ∀ s9 : St, (∀ n, n ≠ b3 → n ≠ s.next → s9.heap.get n = s7.heap.get n) → s9.next = s7.next → Q (.agg (viewL P.now zS zO zC x y).toArray) s9 := by
            intro s9 hz hnx
            have z7 : ∀ n, n < s7.next → b3 < n → s9.heap.get n = s7.heap.get n := fun n _ h => hz n (by omega) (by omega)
            have z6 : ∀ n, n < s6.next → b3 < n → s9.heap.get n = s6.heap.get n := fun n h1 h2 => (z7 n (by omega) h2).trans (k7.get n h1)
            have z5 : ∀ n, n < s5.next → b3 < n → s9.heap.get n = s5.heap.get n := fun n h1 h2 => (z6 n (by omega) h2).trans (k6.get n h1 (by omega))
            have z4 : ∀ n, n < s4.next → b3 < n → s9.heap.get n = s4.heap.get n := fun n h1 h2 => (z5 n (by omega) h2).trans (k5.get n h1 (by omega))
            refine hq _ s9 ⟨by omega, fun n hn => ?_⟩ ⟨⟨zS, zO, zC, rows, ol, lC, x, y, rfl, hx, hy, ?_, ?_, fun r hr => ?_, ?_, fun o ho => ?_, ?_, ?_, hlC⟩⟩
            · rw [hz n (by omega) (by omega), k7.get n (by omega), K6.get n hn]
            · exact (hS.mono (s' := s9) (by omega) (fun r h1 h2 => z5 r h2 (by omega))).lower (by omega)
            · rw [hrows, show rows.length = P.mu by omega]
            · obtain ⟨a1, a2, a3⟩ := hR r hr
              exact ⟨by omega, by omega, by rw [z5 _ a2 (by omega)]; exact a3⟩
            · exact (hO.mono (s' := s9) (by omega) (fun r h1 h2 => z6 r h2 (by omega))).lower (by omega)
            · have ho := (hOk o ho).1
              have a1 := ho.h1
              have a2 := ho.h2
              have := ho.move (s' := s9) (by omega) (z6 _ ho.h3 (by omega)) (z6 _ ho.h4 (by omega))
              exact ⟨by omega, by omega, this.h3, this.h4, this.h5, this.h6, this.h7, this.h8⟩
            · simpa [more] using htot
            · exact (hC4.mono (s' := s9) (by omega) (fun r h1 h2 => z4 r h2 (by omega))).lower (by omega)
          exact fin _ (fun n h1 h2 => by simp (disch := omega)) rfl
      · simp (disch := omega) [r0, r2, r3, gb]
        refine ⟨⟨Nat.le_refl _, fun n _ _ => rfl⟩, [], .nil, fun a b c h => (by cases h), D.es.length, ?_, fun h => ?_⟩
        · unfold obsTot more
          cases hk : nextK D.es 0 <;> rfl
        · cases hk : nextK D.es 0 with
          | none => rw [hk] at h; cases h
          | some k => exact ⟨(nextK_some hk).2.1, cnt_le, Nat.le_refl _⟩
  · simp (disch := omega)
    exact ⟨⟨by simp only; omega, fun n hn hne => by simp (disch := omega)⟩, [], .nil, rfl, rfl, Nat.zero_le _, fun x hx => by cases hx⟩

end Go.Sh
