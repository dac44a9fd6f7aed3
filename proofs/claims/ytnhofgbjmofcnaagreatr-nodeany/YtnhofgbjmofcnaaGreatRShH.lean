/-
  A shadow interpreter for the model's operations: loads, and '=='. (No program in it.)
-/
import Derived.Test.YtnhofgbjmofcnaaGreatRShG
namespace Go.Sh
open Go

variable [Sg : Sig]

/-! ### cells -/
omit Sg in
theorem piece_get {c : Array Value} {d n i : Nat} {v : Value} (h : (piece c d n)[i]? = some v) : c[d + i]? = some v ∧ i < n := by
  unfold piece at h
  by_cases hi : i < n
  · rw [List.getElem?_take_of_lt hi, List.getElem?_drop] at h
    exact ⟨by simpa using h, hi⟩
  · rw [List.getElem?_eq_none] at h
    · cases h
    · rw [List.length_take]; omega

theorem SR.cells {ι : Inj} {s : St} {w : World} (h : SR ι s w) {n : Nat} {cs : List Value} {esz : Option Nat} {ro : Bool} {ni : NI}
    (hn : s.heap.get n = some (.cells cs esz ro)) (hni : ι n = some ni) : OR ι w ni (.cells cs esz ro) := by
  obtain ⟨mi, h1, h2⟩ := h.obj n _ hn
  rw [hni] at h1; cases h1; exact h2

omit Sg in
theorem cell_at {w : World} {b : Nat} {c : Array Value} {e : TypeId} {fr : Nat × Nat} (h : w.heap[b]? = some (.cells c e fr)) (o : Nat) : w.cell? ⟨b, o, none⟩ = c[o]? := by
  simp [World.cell?, h]

omit Sg in
theorem run_loadRow {P : Program} {w : World} {b : Nat} {c : Array Value} {e : TypeId} {fr : Nat × Nat} (h : w.heap[b]? = some (.cells c e fr)) (o : Nat) (l : List Value)
    (hl : ∀ (i : Nat) v, l[i]? = some v → c[o + i]? = some v) : (loadCells ⟨b, o, none⟩ l.length).run P w = .ok ⟨l⟩ w := by
  have := run_loadCells_list (P := P) w ⟨b, o, none⟩ l (fun j v hj => by rw [add_spot, cell_at h]; exact hl j v hj)
  simpa using this

/-- Some cells of a row that the shadow holds. -/
theorem SR.row {ι : Inj} {s : St} {w : World} (h : SR ι s w) {n : Nat} {cs : List Value} {esz : Option Nat} {ro : Bool} {ni : NI}
    (hn : s.heap.get n = some (.cells cs esz ro)) (hni : ι n = some ni) {off k : Nat} {r : List Value} (hr : takeN k (cs.drop off) = some r) :
    ∃ r', LR ι r r' ∧ r'.length = k ∧ ∀ P, (loadCells ⟨ni.blk, ni.d + off, none⟩ k).run P w = .ok ⟨r'⟩ w := by
  obtain ⟨c, e, fr, h1, h2, h3, h4, h5, _⟩ := h.cells hn hni
  obtain ⟨hr1, hr2⟩ := takeN_eq hr
  subst hr1
  refine ⟨((piece c ni.d ni.sa).drop off).take k, (h5.drop off).take k, ?_, ?_⟩
  · have := h5.length
    rw [List.length_take, List.length_drop, ← this, ← List.length_drop]; omega
  · intro P
    have hlen : (((piece c ni.d ni.sa).drop off).take k).length = k := by
      have := h5.length
      rw [List.length_take, List.length_drop, ← this, ← List.length_drop]; omega
    have := run_loadRow (P := P) h1 (ni.d + off) (((piece c ni.d ni.sa).drop off).take k) (fun i v hi => by
      by_cases hik : i < k
      · rw [List.getElem?_take_of_lt hik, List.getElem?_drop] at hi
        have := (piece_get hi).1
        rwa [← Nat.add_assoc] at this
      · rw [List.getElem?_eq_none (by rw [hlen]; omega)] at hi; cases hi)
    rwa [hlen] at this

theorem SR.one {ι : Inj} {s : St} {w : World} (h : SR ι s w) {n : Nat} {cs : List Value} {esz : Option Nat} {ro : Bool} {ni : NI}
    (hn : s.heap.get n = some (.cells cs esz ro)) (hni : ι n = some ni) {off : Nat} {v : Value} (hv : cs[off]? = some v) :
    ∃ v', VR ι v v' ∧ w.cell? ⟨ni.blk, ni.d + off, none⟩ = some v' := by
  obtain ⟨c, e, fr, h1, h2, h3, h4, h5, _⟩ := h.cells hn hni
  obtain ⟨y, hy, hvy⟩ := h5.get hv
  exact ⟨y, hvy, by rw [cell_at h1]; exact (piece_get hy).1⟩

theorem aload_run {E : Env} {P : Program} (hE : E.Ok P) {ι : Inj} {s : St} {w : World} (h : SR ι s w) {t n off : Nat} {v : Value} {ni : NI} (hni : ι n = some ni)
    (hv : aload E s t ⟨n, off, none⟩ = some v) : ∃ v', (loadVar t ⟨ni.blk, ni.d + off, none⟩).run P w = .ok v' w ∧ VR ι v v' := by
  unfold aload at hv
  cases ht : E.ty.get t with
  | none => rw [ht] at hv; cases hv
  | some ti => cases hg : s.heap.get n with
    | none => simp only [ht, hg] at hv; cases hv
    | some o =>
      simp only [ht, hg] at hv
      cases o <;> (try simp only at hv) <;> first | (cases hv; done) | skip
      rename_i cs esz ro
      simp only [Option.isSome_none, cond_false] at hv
      have hT := hE.ty _ _ ht
      unfold partAt at hv
      cases ha : isAgg ti.und with
      | true =>
        simp only [ha, cond_true] at hv
        cases hr : takeN ti.size (cs.drop off) with
        | none => rw [hr] at hv; cases hv
        | some r =>
          rw [hr] at hv; cases hv
          obtain ⟨r', h1, _, h2⟩ := h.row hg hni hr
          exact ⟨.agg ⟨r'⟩, by simp [loadVar, run_isAgg w hT.und, ha, hT.run_size, h2 P], .agg _ _ h1⟩
      | false =>
        simp only [ha, cond_false] at hv
        obtain ⟨v', h1, h2⟩ := h.one hg hni (off := off) (by simpa [List.head?_drop] using hv)
        exact ⟨v', by simp [loadVar, run_isAgg w hT.und, ha, h2], h1⟩

/-! ### '==' -/
omit Sg in
theorem frozen_none {w : World} {b : Nat} {c : Array Value} {e : TypeId} (h : w.heap[b]? = some (.cells c e (0, 0))) (o : Nat) : w.frozen? ⟨b, o, none⟩ = false := by
  simp [World.frozen?, h]

theorem SR.exact {ι : Inj} {s : St} {w : World} (h : SR ι s w) {a : Addr} {v' : Value} (hl : liveExact s a = true) (hv : VR ι (.pointer (some a)) v') :
    ∃ n off ni, a = ⟨n, off, none⟩ ∧ ι n = some ni ∧ v' = .pointer (some ⟨ni.blk, ni.d + off, none⟩) ∧ (∃ o, s.heap.get n = some o) ∧ ∃ c e, w.heap[ni.blk]? = some (.cells c e (0, 0)) := by
  obtain ⟨n, off, ni, rfl, hni, hv'⟩ := hv.ptr_some
  unfold liveExact at hl
  cases hg : s.heap.get n with
  | none => simp [hg] at hl
  | some o =>
    simp only [hg] at hl
    split at hl
    · rename_i cs heq
      cases heq
      obtain ⟨c, e, fr, h1, _, _, _, _, _, h7, _⟩ := h.cells hg hni
      have := h7 rfl rfl
      subst this
      exact ⟨n, off, ni, rfl, hni, hv', ⟨_, hg⟩, c, e, h1⟩
    · cases hl

omit Sg in
theorem run_sameAddr {P : Program} {w : World} {b b' o o' : Nat} {c c' : Array Value} {e e' : TypeId} (h : w.heap[b]? = some (.cells c e (0, 0))) (h' : w.heap[b']? = some (.cells c' e' (0, 0))) :
    (sameAddr ⟨b, o, none⟩ ⟨b', o', none⟩).run P w = .ok (decide (b = b') && decide (o = o')) w := by
  by_cases hb : b = b'
  · subst hb
    by_cases ho : o = o'
    · subst ho; simp [sameAddr]
    · have : ((⟨b, o, none⟩ : Addr) == ⟨b, o', none⟩) = false := by simp [ho]
      simp [sameAddr, ho, this]
  · have hs : w.shape? b = some (e, c.size) := by simp [World.shape?, h]
    have hs' : w.shape? b' = some (e', c'.size) := by simp [World.shape?, h']
    have hf := fun o => frozen_none h o
    have hf' := fun o => frozen_none h' o
    simp [sameAddr, hb, hf, hf', noView, viewAt, hs, hs', mayBeOne, stringish]

theorem aeqF_run {E : Env} {P : Program} (hE : E.Ok P) {ι : Inj} {w : World} {d : Nat} {go : Nat → Value → Value → Option Bool}
    (hgo : ∀ t x y r x' y', go t x y = some r → VR ι x x' → VR ι y y' → (Op.equalIn d t x' y').run P w = .ok r w) {xs ys : List Value} {xs' ys' : Array Value}
    (hx : LR ι xs xs'.toList) (hy : LR ι ys ys'.toList) : ∀ {fs : List Field} {r : Bool}, aeqF E go xs ys fs = some r → (Op.eqFields d xs' ys' fs).run P w = .ok r w := by
  intro fs
  induction fs with
  | nil => intro r h; simp [aeqF] at h; subst h; simp [Op.eqFields]
  | cons f fs ih =>
    intro r h
    unfold aeqF at h
    by_cases hn : f.name = "_"
    · rw [if_pos hn] at h
      unfold Op.eqFields
      rw [if_neg (by simp [hn])]
      exact ih h
    · rw [if_neg hn] at h
      unfold Op.eqFields
      rw [if_pos hn]
      cases ht : E.ty.get f.type with
      | none => rw [ht] at h; cases h
      | some tf =>
        simp only [ht] at h
        cases ha : partAt tf xs f.offset with
        | none => rw [ha] at h; cases h
        | some a => cases hb : partAt tf ys f.offset with
          | none => rw [ha, hb] at h; cases h
          | some b =>
            simp only [ha, hb] at h
            obtain ⟨a', h1, h2⟩ := partAt_run (hE.ty _ _ ht) hx ha w
            obtain ⟨b', h3, h4⟩ := partAt_run (hE.ty _ _ ht) hy hb w
            cases hg : go f.type a b with
            | none => rw [hg] at h; cases h
            | some r0 =>
              have h5 := hgo _ _ _ _ _ _ hg h2 h4
              rw [hg] at h
              cases r0
              · simp only at h; cases h
                simp [h1, h3, h5]
              · simp only at h
                have := ih h
                simp [h1, h3, h5, this]

/-- An array's '==', element by element. -/
def eqFrom (P : Program) (d : Nat) (e : TypeId) (n : Nat) (xs ys : Array Value) : List Nat → Sem Bool
  | [] => pure true
  | i :: is => do
    let a ← part e xs (i * n)
    let b ← part e ys (i * n)
    let r ← Op.equalIn d e a b
    if (!r) = true then pure false else eqFrom P d e n xs ys is

omit Sg in
theorem run_equalIn_array {P : Program} {w : World} (d : Nat) (t : TypeId) (len : Nat) (e : TypeId) (n : Nat) (xs ys : Array Value) (ht : P.underlying t = some (.array len e))
    (hs : (sizeOf e).run P w = .ok n w) : (Op.equalIn (d + 1) t (.agg xs) (.agg ys)).run P w = (eqFrom P d e n xs ys (List.range' 0 len)).run P w := by
  simp only [Op.equalIn, Sem.run_bind, run_underlying ht, Result.andThen_ok, hs]
  rw [Std.Legacy.Range.forIn_eq_forIn_range']
  simp only [Std.Legacy.Range.size, Nat.sub_zero, Nat.add_sub_cancel, Nat.div_one]
  generalize List.range' 0 len 1 = is
  clear ht hs
  induction is generalizing w with
  | nil => simp [eqFrom]
  | cons i is ih =>
    simp only [List.forIn_cons, eqFrom, Sem.run_bind, Sem.run_ite]
    generalize (part e xs (i * n)).run P w = r1
    cases r1 with
    | ok a w1 =>
      simp only [Result.andThen_ok]
      generalize (part e ys (i * n)).run P w1 = r2
      cases r2 with
      | ok b w2 =>
        simp only [Result.andThen_ok]
        generalize (Op.equalIn d e a b).run P w2 = r3
        cases r3 with
        | ok r w3 =>
          cases r
          · simp only [Result.andThen_ok, Bool.not_false, if_true, Sem.run_pure]
          · simp only [Result.andThen_ok, Bool.not_true, Bool.false_eq_true, if_false, Sem.run_pure]
            exact ih
        | halt x w3 => simp [Result.andThen]
      | halt x w2 => simp [Result.andThen]
    | halt x w1 => simp [Result.andThen]

theorem aeqA_run {E : Env} {P : Program} (hE : E.Ok P) {ι : Inj} {w : World} {d e : Nat} {te : TI} (he : E.ty.get e = some te) {go : Value → Value → Option Bool}
    (hgo : ∀ x y r x' y', go x y = some r → VR ι x x' → VR ι y y' → (Op.equalIn d e x' y').run P w = .ok r w) {xs ys : List Value} {xs' ys' : Array Value}
    (hx : LR ι xs xs'.toList) (hy : LR ι ys ys'.toList) : ∀ {n i : Nat} {r : Bool}, aeqA go te n (i * te.size) xs ys = some r →
      (eqFrom P d e te.size xs' ys' (List.range' i n)).run P w = .ok r w := by
  intro n
  induction n with
  | zero => intro i r h; simp [aeqA] at h; subst h; simp [eqFrom]
  | succ n ih =>
    intro i r h
    unfold aeqA at h
    simp only [List.range'_succ, eqFrom]
    cases ha : partAt te xs (i * te.size) with
    | none => rw [ha] at h; cases h
    | some a => cases hb : partAt te ys (i * te.size) with
      | none => rw [ha, hb] at h; cases h
      | some b =>
        simp only [ha, hb] at h
        obtain ⟨a', h1, h2⟩ := partAt_run (hE.ty _ _ he) hx ha w
        obtain ⟨b', h3, h4⟩ := partAt_run (hE.ty _ _ he) hy hb w
        cases hg : go a b with
        | none => rw [hg] at h; cases h
        | some r0 =>
          have h5 := hgo _ _ _ _ _ hg h2 h4
          rw [hg] at h
          cases r0
          · simp only at h; cases h
            simp [h1, h3, h5]
          · simp only at h
            have := ih (i := i + 1) (r := r) (by rw [Nat.add_mul, Nat.one_mul]; exact h)
            simp [h1, h3, h5, this]

theorem aeq_run {E : Env} {P : Program} (hE : E.Ok P) {ι : Inj} {s : St} {w : World} (hs : SR ι s w) : ∀ (n : Nat) {t : Nat} {x y : Value} {r : Bool} {x' y' : Value},
    aeq E s n t x y = some r → VR ι x x' → VR ι y y' → ∀ d, n ≤ d → (Op.equalIn d t x' y').run P w = .ok r w := by
  intro n
  induction n with
  | zero => intro t x y r x' y' h; simp [aeq] at h
  | succ n ih =>
    intro t x y r x' y' h hx hy d hd
    obtain ⟨d, rfl⟩ : ∃ k, d = k + 1 := ⟨d - 1, by omega⟩
    unfold aeq at h
    cases ht : E.ty.get t with
    | none => rw [ht] at h; cases h
    | some ti =>
      simp only [ht] at h
      have hT := hE.ty _ _ ht
      have hu := hT.und
      split at h
      · rename_i hd1; rw [hd1] at hu; cases h
        rw [hx.plain_eq.2.1 _ rfl, hy.plain_eq.2.1 _ rfl]
        exact run_equalIn_bool w d t _ _ hu
      · rename_i hd1; rw [hd1] at hu
        rw [hx.plain_eq.1 _ _ rfl, hy.plain_eq.1 _ _ rfl]
        split at h
        · rename_i hk; subst hk; cases h
          exact run_equalIn_int w d t _ _ _ _ hu
        · cases h
      · rename_i hd1; rw [hd1] at hu; cases h
        rw [hx.plain_eq.2.2 _ rfl, hy.plain_eq.2.2 _ rfl, run_equalIn_string w d t _ _ hu, toList_eq, toList_eq]
      · rename_i b hd1; rw [hd1] at hu; cases h
        cases hx
        cases b with
        | none => cases hy; simp [Op.equalIn, run_underlying hu]
        | some b => obtain ⟨_, _, _, _, _, rfl⟩ := hy.ptr_some; simp [Op.equalIn, run_underlying hu]
      · rename_i hd1; rw [hd1] at hu; cases h
        obtain ⟨_, _, _, _, _, rfl⟩ := hx.ptr_some
        cases hy
        simp [Op.equalIn, run_underlying hu]
      · rename_i e a b hd1; rw [hd1] at hu
        cases he : E.ty.get e with
        | none => rw [he] at h; cases h
        | some te =>
          simp only [he] at h
          have hsz := (hE.ty _ _ he).run_size (P := P) w
          by_cases hz : te.size = 0
          · simp [hz] at h
          · simp only [nat_beq_eq, hz, decide_false, cond_false] at h
            cases hl : (liveExact s a && liveExact s b) with
            | false => rw [hl] at h; cases h
            | true =>
              rw [hl] at h
              simp only [Bool.and_eq_true] at hl
              simp only [cond_true] at h
              cases h
              obtain ⟨n1, o1, ni, rfl, hni, rfl, ⟨p1, hg1⟩, c1, e1, hw1⟩ := hs.exact hl.1 hx
              obtain ⟨n2, o2, mi, rfl, hmi, rfl, ⟨p2, hg2⟩, c2, e2, hw2⟩ := hs.exact hl.2 hy
              have hrun := run_sameAddr (P := P) (o := ni.d + o1) (o' := mi.d + o2) hw1 hw2
              have hval : (decide (ni.blk = mi.blk) && decide (ni.d + o1 = mi.d + o2)) = (decide (n1 = n2) && decide (o1 = o2)) := by
                by_cases hn : n1 = n2
                · subst hn
                  rw [hni] at hmi; cases hmi
                  simp
                · have : ni.blk ≠ mi.blk := fun e => hn (hs.inj _ _ _ _ _ _ hg1 hg2 hni hmi e)
                  simp [hn, this]
              simp only [nat_beq_eq]
              rw [← hval, ← hrun]
              simp [Op.equalIn, run_underlying hu, hsz, hz]
      · rename_i b hd1; rw [hd1] at hu; cases h
        cases hx
        rename_i b2 _ _ _
        cases hy <;> simp [Op.equalIn, run_underlying hu]
      · rename_i a _ _ hd1; rw [hd1] at hu; cases h
        cases hy
        rcases hx.slice_some with ⟨_, _, _, _, _, _, rfl, _⟩ | ⟨_, _, _, rfl⟩ <;> simp [Op.equalIn, run_underlying hu]
      · rename_i b hd1; rw [hd1] at hu; cases h
        cases hx
        cases hy <;> simp [Op.equalIn, run_underlying hu]
      · rename_i hd1; rw [hd1] at hu; cases h
        cases hx
        cases hy
        simp [Op.equalIn, run_underlying hu]
      · rename_i hd1; rw [hd1] at hu; cases h
        cases hx; cases hy
        simp [Op.equalIn, run_underlying hu]
      · rename_i hd1; rw [hd1] at hu; cases h
        cases hx; cases hy
        simp [Op.equalIn, run_underlying hu]
      · rename_i hd1; rw [hd1] at hu; cases h
        cases hx; cases hy
        simp [Op.equalIn, run_underlying hu]
      · rename_i hd1; rw [hd1] at hu; cases h
        cases hx; cases hy
        simp [Op.equalIn, run_underlying hu]
      · rename_i hd1; rw [hd1] at hu; cases h
        cases hx; cases hy
        simp [Op.equalIn, run_underlying hu]
      · rename_i fs xs ys hd1; rw [hd1] at hu
        have hst := (hT.eqs (by rw [hd1]; rfl)).2
        have hfo : P.fieldsOf t = fs := by simp [Program.fieldsOf, hu]
        cases hx with
        | agg xs1 xs' hx1 =>
          cases hy with
          | agg ys1 ys' hy1 =>
            rw [run_equalIn_agg w d t ⟨xs'⟩ ⟨ys'⟩ (by rw [hfo]; exact hu) hst, hfo]
            exact aeqF_run hE (fun t x y r x' y' hg hxx hyy => ih hg hxx hyy d (by omega)) hx1 hy1 h
      · rename_i len e xs ys hd1; rw [hd1] at hu
        cases he : E.ty.get e with
        | none => rw [he] at h; cases h
        | some te =>
          simp only [he] at h
          have hsz := (hE.ty _ _ he).run_size (P := P) w
          cases hx with
          | agg xs1 xs' hx1 =>
            cases hy with
            | agg ys1 ys' hy1 =>
              rw [run_equalIn_array d t len e te.size ⟨xs'⟩ ⟨ys'⟩ hu hsz]
              exact aeqA_run hE he (fun x y r x' y' hg hxx hyy => ih hg hxx hyy d (by omega)) hx1 hy1 (by simpa using h)
      · cases h

end Go.Sh
