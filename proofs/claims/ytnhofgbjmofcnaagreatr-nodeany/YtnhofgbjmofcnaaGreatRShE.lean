/-
  A shadow interpreter for the model's operations: the operations that touch no memory are met. (No program in it.)
-/
import Derived.Test.YtnhofgbjmofcnaaGreatRShD
namespace Go.Sh
open Go

variable [Sg : Sig]

/-! ### small runs -/
section
variable {P : Program} (w : World)

omit Sg in
theorem TyOk.run_und {t : Nat} {ti : TI} (h : TyOk P t ti) : (underlying t).run P w = .ok ti.und w := run_underlying h.und w

omit Sg in
theorem TyOk.run_info {t : Nat} {ti : TI} (h : TyOk P t ti) : ∃ i, (typeInfo t).run P w = .ok i w ∧ i.size = ti.size ∧ i.bytes = ti.bytes := by
  obtain ⟨i, hi, h1, h2, _⟩ := h.info
  exact ⟨i, by simp [typeInfo, hi], h1, h2⟩

omit Sg in
theorem TyOk.run_size {t : Nat} {ti : TI} (h : TyOk P t ti) : (sizeOf t).run P w = .ok ti.size w := by
  obtain ⟨i, hi, h1, _⟩ := h.info
  simp [sizeOf, typeInfo, hi, h1]

omit Sg in
theorem TyOk.run_zero {t : Nat} {ti : TI} (h : TyOk P t ti) : ∃ z, (zeroValue t).run P w = .ok z w ∧ z.cells.toList = ti.zero ∧ (isAgg ti.und = true → z = .agg ⟨ti.zero⟩) ∧ (isAgg ti.und = false → ti.zero = [z]) := by
  obtain ⟨i, hi, _, _, z, hz, h1, h2⟩ := h.info
  exact ⟨z, by simp [zeroValue, typeInfo, hi, hz], h1, h2⟩

omit Sg in
theorem run_isAgg {t : Nat} {d : TypeDesc} (h : P.underlying t = some d) : (Go.isAgg t).run P w = .ok (isAgg d) w := by
  cases d <;> simp [Go.isAgg, run_underlying h, isAgg]

end

/-! ### rows -/
omit Sg in
theorem takeN_eq : ∀ {n : Nat} {l r : List Value}, takeN n l = some r → r = l.take n ∧ n ≤ l.length := by
  intro n
  induction n with
  | zero => intro l r h; simp [takeN] at h; subst h; simp
  | succ n ih =>
    intro l r h
    cases l with
    | nil => simp [takeN] at h
    | cons v vs =>
      simp only [takeN] at h
      cases hr : takeN n vs with
      | none => rw [hr] at h; cases h
      | some r' =>
        rw [hr] at h; cases h
        obtain ⟨h1, h2⟩ := ih hr
        subst h1
        exact ⟨rfl, by simp; omega⟩

omit Sg in
theorem takeN_some {n : Nat} {l : List Value} (h : n ≤ l.length) : takeN n l = some (l.take n) := by
  induction n generalizing l with
  | zero => simp [takeN]
  | succ n ih => cases l with
    | nil => simp at h
    | cons v vs => simp [takeN, ih (by simpa using h)]

omit Sg in
theorem setN_eq : ∀ {cs : List Value} {off : Nat} {vs r : List Value}, setN cs off vs = some r →
    r = cs.take off ++ vs ++ cs.drop (off + vs.length) ∧ off + vs.length ≤ cs.length := by
  intro cs
  induction cs with
  | nil =>
    intro off vs r h
    cases off with
    | zero => cases vs with
      | nil => simp [setN] at h; subst h; simp
      | cons v vs => simp [setN] at h
    | succ off => simp [setN] at h
  | cons c cs ih =>
    intro off vs r h
    cases off with
    | zero => cases vs with
      | nil => simp [setN] at h; subst h; simp
      | cons v vs =>
        simp only [setN] at h
        cases hr : setN cs 0 vs with
        | none => rw [hr] at h; cases h
        | some r' =>
          rw [hr] at h; cases h
          obtain ⟨h1, h2⟩ := ih hr
          subst h1
          exact ⟨by simp, by simp at h2 ⊢; omega⟩
    | succ off =>
      simp only [setN] at h
      cases hr : setN cs off vs with
      | none => rw [hr] at h; cases h
      | some r' =>
        rw [hr] at h; cases h
        obtain ⟨h1, h2⟩ := ih hr
        exact ⟨by rw [h1]; simp [Nat.add_right_comm], by simp; omega⟩

omit Sg in
theorem setN_some {cs vs : List Value} {off : Nat} (h : off + vs.length ≤ cs.length) : setN cs off vs = some (cs.take off ++ vs ++ cs.drop (off + vs.length)) := by
  induction cs generalizing off vs with
  | nil => cases off with
    | zero => cases vs with
      | nil => simp [setN]
      | cons => simp at h
    | succ off => simp at h
  | cons c cs ih => cases off with
    | zero => cases vs with
      | nil => simp [setN]
      | cons v vs =>
        have := ih (off := 0) (vs := vs) (by simpa using h)
        simp only [setN, this]; simp
    | succ off =>
      have := ih (off := off) (vs := vs) (by simp at h; omega)
      simp only [setN, this]; simp [Nat.add_right_comm]

theorem setN_LR {ι : Inj} {cs cs' vs vs' r : List Value} {off : Nat} (hc : LR ι cs cs') (hv : LR ι vs vs') (h : setN cs off vs = some r) :
    LR ι r (cs'.take off ++ vs' ++ cs'.drop (off + vs'.length)) := by
  obtain ⟨h1, _⟩ := setN_eq h
  subst h1
  rw [← hv.length]
  exact ((hc.take off).append hv).append (hc.drop _)

omit Sg in
theorem sizeIs_iff : ∀ {n : Nat} {l : List Value}, sizeIs n l = true ↔ l.length = n := by
  intro n
  induction n with
  | zero => intro l; cases l <;> simp [sizeIs]
  | succ n ih => intro l; cases l with
    | nil => simp [sizeIs]
    | cons v vs => simp [sizeIs, ih]

omit Sg in
theorem cellsOf_eq (v : Value) : cellsOf v = v.cells.toList := by cases v <;> simp [cellsOf, Value.cells]

omit Sg in
theorem cells_one {v : Value} (h : isCell v = true) : v.cells.toList = [v] := by
  cases v <;> first | rfl | cases h

theorem VR.cells {ι : Inj} {v v' : Value} (h : VR ι v v') : LR ι (cellsOf v) v'.cells.toList := by
  cases h with
  | agg xs ys h => exact h
  | any k n _ h => rw [cells_one (isCell_word h)]; exact .cons _ _ _ _ (.any k n _ h) .nil
  | sym k n m => rw [cells_one (isCell_word (Sg.word n))]; exact .cons _ _ _ _ (.sym k n m) .nil
  | _ => exact .cons _ _ _ _ (by constructor <;> assumption) .nil

/-! ### operands -/
/-- What a shadow operand stands for. -/
def Env' (ι : Inj) (ρ : Operand → Option Value) (ρ' : Operand → Value) : Prop := ∀ x v, ρ x = some v → VR ι v (ρ' x)

theorem evalL_LR {ι : Inj} {ρ : Operand → Option Value} {ρ' : Operand → Value} (hρ : Env' ι ρ ρ') : ∀ {l : List Operand} {vs : List Value}, evalL ρ l = some vs → LR ι vs (l.map ρ') := by
  intro l
  induction l with
  | nil => intro vs h; simp [evalL] at h; subst h; exact .nil
  | cons x xs ih =>
    intro vs h
    simp only [evalL] at h
    cases hx : ρ x with
    | none => rw [hx] at h; cases h
    | some v =>
      rw [hx] at h
      cases hr : evalL ρ xs with
      | none => rw [hr] at h; cases h
      | some r => rw [hr] at h; cases h; exact .cons _ _ _ _ (hρ x v hx) (ih hr)

/-- Parts of a literal. -/
inductive PR (ι : Inj) : List (Nat × Value) → List (Nat × Value) → Prop
  | nil : PR ι [] []
  | cons (i : Nat) (v w : Value) (vs ws : List (Nat × Value)) (h : VR ι v w) (hs : PR ι vs ws) : PR ι ((i, v) :: vs) ((i, w) :: ws)

theorem evalP_PR {ι : Inj} {ρ : Operand → Option Value} {ρ' : Operand → Value} (hρ : Env' ι ρ ρ') : ∀ {l : List (Nat × Operand)} {vs : List (Nat × Value)}, evalP ρ l = some vs → PR ι vs (l.map fun (i, x) => (i, ρ' x)) := by
  intro l
  induction l with
  | nil => intro vs h; simp [evalP] at h; subst h; exact .nil
  | cons x xs ih =>
    intro vs h
    obtain ⟨i, x⟩ := x
    simp only [evalP] at h
    cases hx : ρ x with
    | none => rw [hx] at h; cases h
    | some v =>
      rw [hx] at h
      cases hr : evalP ρ xs with
      | none => rw [hr] at h; cases h
      | some r => rw [hr] at h; cases h; exact .cons _ _ _ _ _ (hρ x v hx) (ih hr)

/-! ### a part of a row -/
theorem partAt_run {P : Program} {ι : Inj} {t : Nat} {ti : TI} (hT : TyOk P t ti) {cs : List Value} {cs' : Array Value} {off : Nat} {v : Value}
    (hc : LR ι cs cs'.toList) (h : partAt ti cs off = some v) (w : World) : ∃ v', (part t cs' off).run P w = .ok v' w ∧ VR ι v v' := by
  unfold partAt at h
  cases ha : isAgg ti.und with
  | true =>
    simp only [ha, cond_true] at h
    cases hr : takeN ti.size (cs.drop off) with
    | none => rw [hr] at h; cases h
    | some r =>
      rw [hr] at h; cases h
      obtain ⟨h1, h2⟩ := takeN_eq hr
      subst h1
      refine ⟨.agg (cs'.extract off (off + ti.size)), by simp [part, run_isAgg w hT.und, ha, hT.run_size], ?_⟩
      have : cs'.extract off (off + ti.size) = ⟨(cs'.toList.drop off).take ti.size⟩ := by
        apply array_eq_of_toList
        simp [Array.toList_extract, List.extract]
      rw [this]
      exact .agg _ _ ((hc.drop off).take _)
  | false =>
    simp only [ha, cond_false] at h
    have hx : cs[off]? = some v := by simpa [List.head?_drop] using h
    obtain ⟨y, hy, hv⟩ := hc.get hx
    refine ⟨y, ?_, hv⟩
    have hy' : cs'[off]? = some y := by simpa using hy
    simp [part, run_isAgg w hT.und, ha, hy']

/-! ### fill -/
omit Sg in
theorem foldl_set (l : List Value) : ∀ (off k : Nat) (cells : Array Value), off + k + l.length ≤ cells.size →
    ((l.zipIdx k).foldl (fun (cs : Array Value) (c, j) => cs.setIfInBounds (off + j) c) cells).toList = cells.toList.take (off + k) ++ l ++ cells.toList.drop (off + k + l.length) := by
  induction l with
  | nil => intro off k cells h; simp
  | cons v l ih =>
    intro off k cells h
    simp only [List.zipIdx_cons, List.foldl_cons]
    rw [ih _ _ _ (by simp at h ⊢; omega)]
    simp only [Array.toList_setIfInBounds, List.length_cons]
    have hlt : off + k < cells.toList.length := by simp at h ⊢; omega
    rw [List.set_eq_take_append_cons_drop, if_pos hlt]
    have e1 : (cells.toList.take (off + k) ++ v :: cells.toList.drop (off + k + 1)).take (off + (k + 1)) = cells.toList.take (off + k) ++ [v] := by
      rw [List.take_append]
      have : (cells.toList.take (off + k)).length = off + k := by rw [List.length_take]; omega
      rw [this, show off + (k + 1) - (off + k) = 1 from by omega, List.take_of_length_le (by rw [this]; omega)]
      simp
    have e2 : (cells.toList.take (off + k) ++ v :: cells.toList.drop (off + k + 1)).drop (off + (k + 1) + l.length) = cells.toList.drop (off + k + (l.length + 1)) := by
      rw [List.drop_append]
      have : (cells.toList.take (off + k)).length = off + k := by rw [List.length_take]; omega
      rw [this, List.drop_of_length_le (by rw [this]; omega), show off + (k + 1) + l.length - (off + k) = l.length + 1 from by omega]
      simp [Nat.add_assoc, Nat.add_comm, Nat.add_left_comm]
    rw [e1, e2]
    simp

omit Sg in
theorem fill_one {place : Nat → Option (Nat × Nat)} {cells : Array Value} {i off size : Nat} {v : Value} {rest : List (Nat × Value)} (hp : place i = some (off, size))
    (hs : v.cells.size = size) (hl : off + size ≤ cells.size) :
    Instr.fill place cells ((i, v) :: rest) = Instr.fill place ⟨cells.toList.take off ++ v.cells.toList ++ cells.toList.drop (off + size)⟩ rest := by
  simp only [Instr.fill, hp]
  rw [if_neg (by simp [hs]; omega)]
  congr 1
  apply array_eq_of_toList
  rw [← Array.foldl_toList]
  have := foldl_set v.cells.toList off 0 cells (by simp; omega)
  simp only [Nat.add_zero] at this
  rw [Array.toList_zipIdx, this]
  simp [hs]

structure Env.Ok (E : Env) (P : Program) : Prop where
  ty : ∀ t ti, E.ty.get t = some ti → TyOk P t ti
  fn : ∀ f fn, E.fn.get f = some fn → P.funcs[f]? = some fn
  enter : ∀ f fn, E.fn.get f = some fn → fn.body.isSome = true → ∀ args w, (callFunc f args).run P w = .ok (.enter f args) w
  prim : ∀ f p, E.prim f = some p → PrimOk P f p ∧ ∀ args w, (callFunc f args).run P w = .ok (.enter f args) w
  mixed : P.follows .mixedOrders = true
  orc : ∀ op u v r, E.orc op u v = some r → ∀ (ι : Inj) u' v' t w, VR ι u u' → VR ι v v' → ¬ (u' = .nilIface ∧ v' = .nilIface) ∧ (∀ xs, u' ≠ .agg xs) ∧ ∃ r', (binOp op t u' v').run P w = .ok r' w ∧ VR ι r r'
  room : ∀ n, E.room n = true → ∃ k m, Sg.sym n = .int k m ∧ 0 ≤ m ∧ m.toNat ≤ 5000

theorem fillS_fill {E : Env} {ι : Inj} {fs : List Field} {places : Array (Nat × Nat)}
    (hpl : ∀ (i : Nat) (f : Field) (tf : TI), fs[i]? = some f → E.ty.get f.type = some tf → places[i]? = some (f.offset, tf.size)) :
    ∀ {parts parts' : List (Nat × Value)} {cells r : List Value} {cells' : Array Value}, PR ι parts parts' → LR ι cells cells'.toList → fillS E fs parts cells = some r →
      ∃ r', Instr.fill (places[·]?) cells' parts' = some r' ∧ LR ι r r'.toList := by
  intro parts
  induction parts with
  | nil =>
    intro parts' cells r cells' hp hc h
    cases hp
    simp [fillS] at h; subst h
    exact ⟨cells', by simp [Instr.fill], hc⟩
  | cons p parts ih =>
    intro parts' cells r cells' hp hc h
    cases hp with
    | cons i v v' vs ws hv hs =>
      simp only [fillS] at h
      cases hf : fs[i]? with
      | none => rw [hf] at h; cases h
      | some f =>
        simp only [hf] at h
        cases ht : E.ty.get f.type with
        | none => rw [ht] at h; cases h
        | some tf =>
          simp only [ht] at h
          cases hz : sizeIs tf.size (cellsOf v) with
          | false => rw [hz] at h; cases h
          | true =>
            simp only [hz, cond_true] at h
            cases hn : setN cells f.offset (cellsOf v) with
            | none => rw [hn] at h; cases h
            | some c =>
              simp only [hn] at h
              have hlen : (cellsOf v).length = tf.size := sizeIs_iff.1 hz
              have hvc := hv.cells
              have hsz : v'.cells.size = tf.size := by have := hvc.length; simp at this; omega
              have hcl := hc.length
              obtain ⟨h1, h2⟩ := setN_eq hn
              have hb : f.offset + tf.size ≤ cells'.size := by simp at hcl; omega
              have hfo := fill_one (cells := cells') (rest := ws) (hpl i f tf hf ht) hsz hb
              have hLR := setN_LR hc hvc hn
              have hvl : v'.cells.toList.length = tf.size := by simp [hsz]
              rw [hvl] at hLR
              obtain ⟨r', hr1, hr2⟩ := ih (cells' := ⟨cells'.toList.take f.offset ++ v'.cells.toList ++ cells'.toList.drop (f.offset + tf.size)⟩) hs hLR h
              exact ⟨r', by rw [hfo]; exact hr1, hr2⟩

theorem fillA_fill {ι : Inj} {size : Nat} : ∀ {parts parts' : List (Nat × Value)} {cells r : List Value} {cells' : Array Value}, PR ι parts parts' → LR ι cells cells'.toList →
    fillA size parts cells = some r → ∃ r', Instr.fill (fun i => some (i * size, size)) cells' parts' = some r' ∧ LR ι r r'.toList := by
  intro parts
  induction parts with
  | nil =>
    intro parts' cells r cells' hp hc h
    cases hp
    simp [fillA] at h; subst h
    exact ⟨cells', by simp [Instr.fill], hc⟩
  | cons p parts ih =>
    intro parts' cells r cells' hp hc h
    cases hp with
    | cons i v v' vs ws hv hs =>
      simp only [fillA] at h
      cases hz : sizeIs size (cellsOf v) with
      | false => rw [hz] at h; cases h
      | true =>
        simp only [hz, cond_true] at h
        cases hn : setN cells (i * size) (cellsOf v) with
        | none => rw [hn] at h; cases h
        | some c =>
          simp only [hn] at h
          have hlen : (cellsOf v).length = size := sizeIs_iff.1 hz
          have hvc := hv.cells
          have hsz : v'.cells.size = size := by have := hvc.length; simp at this; omega
          have hcl := hc.length
          obtain ⟨h1, h2⟩ := setN_eq hn
          have hb : i * size + size ≤ cells'.size := by simp at hcl; omega
          have hfo := fill_one (place := fun i => some (i * size, size)) (cells := cells') (rest := ws) (i := i) rfl hsz hb
          have hLR := setN_LR hc hvc hn
          have hvl : v'.cells.toList.length = size := by simp [hsz]
          rw [hvl] at hLR
          obtain ⟨r', hr1, hr2⟩ := ih (cells' := ⟨cells'.toList.take (i * size) ++ v'.cells.toList ++ cells'.toList.drop (i * size + size)⟩) hs hLR h
          exact ⟨r', by rw [hfo]; exact hr1, hr2⟩

/-! ### what touches no memory -/
omit Sg in
theorem known_mem {E : Env} : ∀ {fs : List Field}, known E fs = true → ∀ f ∈ fs, (E.ty.get f.type).isSome = true := by
  intro fs
  induction fs with
  | nil => intro _ f hf; cases hf
  | cons g fs ih =>
    intro h f hf
    simp only [known, Bool.and_eq_true] at h
    rcases List.mem_cons.1 hf with rfl | hf
    · exact h.1
    · exact ih h.2 f hf

/-- The places of a struct's fields, as the build asks for them. -/
theorem run_places {E : Env} {P : Program} (hE : E.Ok P) : ∀ (fs : List Field), known E fs = true → ∀ w, ∃ pl : List (Nat × Nat),
    (fs.mapM fun f => (do pure (f.offset, ← sizeOf f.type) : Sem (Nat × Nat))).run P w = .ok pl w ∧
    ∀ (i : Nat) (f : Field) (tf : TI), fs[i]? = some f → E.ty.get f.type = some tf → pl[i]? = some (f.offset, tf.size) := by
  intro fs
  induction fs with
  | nil => intro _ w; exact ⟨[], by simp, fun i f tf h => by simp at h⟩
  | cons g fs ih =>
    intro h w
    simp only [known, Bool.and_eq_true] at h
    obtain ⟨tg, htg⟩ := Option.isSome_iff_exists.1 h.1
    obtain ⟨pl, h1, h2⟩ := ih h.2 w
    refine ⟨(g.offset, tg.size) :: pl, by simp only [List.mapM_cons, Sem.run_bind, (hE.ty _ _ htg).run_size w, Result.andThen_ok, Sem.run_pure, h1], ?_⟩
    intro i f tf hi hf
    cases i with
    | zero =>
      simp at hi; subst hi
      rw [htg] at hf; cases hf
      rfl
    | succ i => simpa using h2 i f tf (by simpa using hi) hf

theorem run_placesA {E : Env} {P : Program} (hE : E.Ok P) (fs : Array Field) (h : known E fs.toList = true) (w : World) : ∃ pl : Array (Nat × Nat),
    (fs.mapM fun f => (do pure (f.offset, ← sizeOf f.type) : Sem (Nat × Nat))).run P w = .ok pl w ∧
    ∀ (i : Nat) (f : Field) (tf : TI), fs.toList[i]? = some f → E.ty.get f.type = some tf → pl[i]? = some (f.offset, tf.size) := by
  obtain ⟨pl, h1, h2⟩ := run_places hE fs.toList h w
  refine ⟨pl.toArray, ?_, fun i f tf hi hf => by simpa using h2 i f tf hi hf⟩
  have : (fs.mapM fun f => (do pure (f.offset, ← sizeOf f.type) : Sem (Nat × Nat))) = List.toArray <$> (fs.toList.mapM fun f => (do pure (f.offset, ← sizeOf f.type) : Sem (Nat × Nat))) := by
    rw [Array.mapM_eq_mapM_toList]
  rw [this, Sem.run_map, h1]
  rfl

end Go.Sh
