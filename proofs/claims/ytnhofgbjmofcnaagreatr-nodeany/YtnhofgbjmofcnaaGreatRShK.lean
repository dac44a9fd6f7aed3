/-
  A shadow interpreter for the model's operations: the operations that make something are met. (No program in it.)
-/
import Derived.Test.YtnhofgbjmofcnaaGreatRShJ
namespace Go.Sh
open Go

variable [Sg : Sig]

omit Sg in
theorem repN_length : ∀ (n : Nat) (z : List Value), (repN n z).length = n * z.length := by
  intro n
  induction n with
  | zero => intro z; simp [repN]
  | succ n ih => intro z; simp [repN, ih, Nat.add_mul, Nat.add_comm]

omit Sg in
theorem repN_get : ∀ (n : Nat) (z : List Value) (i : Nat), i < n * z.length → (repN n z)[i]? = z[i % z.length]? := by
  intro n
  induction n with
  | zero => intro z i h; simp at h
  | succ n ih =>
    intro z i h
    simp only [repN]
    have hz : 0 < z.length := by
      rcases Nat.eq_zero_or_pos z.length with h0 | h0
      · rw [h0] at h; simp at h
      · exact h0
    by_cases hi : i < z.length
    · rw [List.getElem?_append_left hi, Nat.mod_eq_of_lt hi]
    · rw [List.getElem?_append_right (by omega), ih _ _ (by rw [Nat.add_mul] at h; omega)]
      congr 1
      rw [← Nat.mod_eq_sub_mod (by omega)]

omit Sg in
theorem rep_eq (n : Nat) (z : Array Value) (hz : 0 < z.size) : ((Array.range (n * z.size)).map fun i => z[i % z.size]!) = ⟨repN n z.toList⟩ := by
  apply array_eq_of_toList
  apply List.ext_getElem?
  intro i
  by_cases hi : i < n * z.size
  · have hm : i % z.size < z.size := Nat.mod_lt _ hz
    show _ = (repN n z.toList)[i]?
    rw [repN_get n z.toList i (by simpa using hi)]
    simp only [Array.length_toList, Array.getElem?_toList]
    rw [Array.getElem?_eq_getElem hm]
    simp [hi, hm]
  · show _ = (repN n z.toList)[i]?
    rw [List.getElem?_eq_none (by simp; omega), List.getElem?_eq_none (by rw [repN_length]; simpa using Nat.le_of_not_lt hi)]

theorem OR_new {ι : Inj} {w : World} {cs : List Value} {c : Array Value} {e : TypeId} (h : LR ι cs c.toList) :
    OR ι (wpush w (.cells c e (0, 0))) ⟨w.heap.size, 0, cs.length, cs.length, none⟩ (.cells cs none false) := by
  have hl := h.length
  refine ⟨c, e, (0, 0), by rw [wpush_get]; simp, rfl, rfl, by simp at hl; simp; omega, ?_, by intro _ off _; simp, fun _ _ => rfl, by intro k hk; cases hk⟩
  have : piece c 0 cs.length = c.toList := by
    unfold piece
    rw [hl, List.drop_zero]
    exact List.take_of_length_le (Nat.le_refl _)
  simpa [this] using h

/-- Something is made: a block more, and a value that names it. -/
def Makes (P : Program) (ι : Inj) (ρ' : Operand → Value) (o : Oper) (ob : AObj) (f : Nat → Value) (w : World) : Prop :=
  ∃ (v' : Value) (ob' : Obj) (ni : NI), (execOp ρ' o).run P w = .ok (.value v') (wpush w ob') ∧ ni.blk = w.heap.size ∧ (∀ off, fzObj (some ob') off = false) ∧
    ∀ nm, ι nm = none → OR (upd ι nm ni) (wpush w ob') ni ob ∧ VR (upd ι nm ni) (f nm) v'

omit Sg in
theorem wf_i64 {n : Int} (h0 : 0 ≤ n) (h : n.toNat ≤ most) : IntKind.i64.wrap n = n := by
  have : n < 9223372036854775808 := by unfold most at h; omega
  unfold IntKind.wrap
  simp [IntKind.bits, IntKind.signed]
  omega

section
variable {E : Env} {P : Program} {ι : Inj} {ρ : Operand → Option Value} {ρ' : Operand → Value} {w : World}

theorem makes_cells {o : Oper} {cs : List Value} {c : Array Value} {e : TypeId} {f : Nat → Value} {v' : Value} (h : LR ι cs c.toList)
    (hr : (execOp ρ' o).run P w = .ok (.value v') (wpush w (.cells c e (0, 0))))
    (hv : ∀ nm ni, ni = (⟨w.heap.size, 0, cs.length, cs.length, none⟩ : NI) → VR (upd ι nm ni) (f nm) v') : Makes P ι ρ' o (.cells cs none false) f w :=
  ⟨v', _, ⟨w.heap.size, 0, cs.length, cs.length, none⟩, hr, rfl, fun _ => by simp [fzObj], fun nm hn => ⟨OR_new (h.mono (Ext.upd _ hn)), hv nm _ rfl⟩⟩

theorem makes_ptr {nm b : Nat} {l : Nat} : VR (upd ι nm ⟨b, 0, l, l, none⟩) (.pointer (some ⟨nm, 0, none⟩)) (.pointer (some ⟨b, 0, none⟩)) := by
  have := VR.ptr (ι := upd ι nm ⟨b, 0, l, l, none⟩) nm 0 _ (upd_same ..)
  simpa using this

theorem makes_slice {nm b l n c : Nat} : VR (upd ι nm ⟨b, 0, l, l, none⟩) (.slice (some ⟨nm, 0, none⟩) n c) (.slice (some ⟨b, 0, none⟩) n c) := by
  have := VR.slice (ι := upd ι nm ⟨b, 0, l, l, none⟩) nm 0 n c c _ (upd_same ..) (.inl rfl) (Nat.le_refl _)
  simpa using this

theorem makeSlice_run (hE : E.Ok P) {o : Oper} {t e : TypeId} {l c : Operand} {ti te : TI} (ho : o.op = .makeSlice t l c) (ht : E.ty.get t = some ti) (hd : ti.und = .slice e) (he : E.ty.get e = some te)
    {k1 k2 : IntKind} {ln cn : Int} (hl : ρ' l = .int k1 ln) (hc : ρ' c = .int k2 cn) (b1 : 0 ≤ ln) (b2 : ln ≤ cn) (b3 : cn.toNat ≤ most) (b4 : cn.toNat * te.bytes ≤ most) (b5 : 0 < te.size) (b6 : sizeIs te.size te.zero = true) :
    (execOp ρ' o).run P w = .ok (.value (.slice (some ⟨w.heap.size, 0, none⟩) ln.toNat cn.toNat)) (wpush w (.cells ⟨repN cn.toNat te.zero⟩ e (0, 0))) := by
  have hT := hE.ty _ _ ht
  have hu := hT.und
  rw [hd] at hu
  have hTe := hE.ty _ _ he
  rw [sizeIs_iff] at b6
  obtain ⟨z, hz, hzc, _⟩ := hTe.run_zero w
  obtain ⟨inf, hinf, _, hby⟩ := hTe.run_info w
  have hzs : z.cells.size = te.size := by rw [← Array.length_toList, hzc]; exact b6
  have wl : IntKind.i64.wrap ln = ln := wf_i64 b1 (by omega)
  have wc : IntKind.i64.wrap cn = cn := wf_i64 (by omega) b3
  have hmost : most = 1099511627776 := rfl
  have hbig : ¬ ((inf.bytes : Int) * cn > 2 ^ 48) := by
    rw [hby]
    have : ((te.bytes : Int) * cn) = ((cn.toNat * te.bytes : Nat) : Int) := by
      rw [Int.natCast_mul, Int.toNat_of_nonneg (by omega), Int.mul_comm]
    rw [this]; omega
  unfold execOp; simp only [ho, hl, hc]
  simp only [Instr.makeSlice, Sem.run_bind, run_underlying hu, Result.andThen_ok, asInt, asIntOf, Sem.run_pure, hinf, wl, wc, hTe.run_size]
  have hno : (decide (cn < 0) || decide ((inf.bytes : Int) * cn > 2 ^ 48) || decide (ln < 0) || decide (ln > cn)) = false := by
    simp only [Bool.or_eq_false_iff, decide_eq_false_iff_not]
    exact ⟨⟨⟨by omega, hbig⟩, by omega⟩, by omega⟩
  rw [if_neg (by rw [hno]; simp)]
  simp only [Sem.run_bind, run_askRoom, hTe.run_size, Result.andThen_ok]
  by_cases h0 : cn.toNat * te.size = 0
  · have hl0 : cn.toNat = 0 := by
      rcases Nat.mul_eq_zero.1 h0 with h | h
      · exact h
      · omega
    simp only [h0, if_true, Sem.run_bind, Sem.run_pure, Result.andThen_ok]
    have : ((Array.range 0).map fun x => (#[] : Array Value)[x % (#[] : Array Value).size]!) = (⟨repN cn.toNat te.zero⟩ : Array Value) := by rw [hl0]; simp [repN]
    rw [this]
    simp only [Sem.run_bind, newRow, run_newObj, Result.andThen_ok, Sem.run_pure]
    rfl
  · simp only [h0, if_false, Sem.run_bind, hz, Sem.run_pure, Result.andThen_ok]
    have : ((Array.range (cn.toNat * te.size)).map fun x => z.cells[x % z.cells.size]!) = (⟨repN cn.toNat te.zero⟩ : Array Value) := by
      rw [← hzs, rep_eq cn.toNat z.cells (by omega), hzc]
    rw [this]
    simp only [Sem.run_bind, newRow, run_newObj, Result.andThen_ok, Sem.run_pure]
    rfl

theorem aalloc_makes (hE : E.Ok P) (hρ : Env' ι ρ ρ') {o : Oper} {ob : AObj} {f : Nat → Value} (h : aalloc E ρ o = some (ob, f)) : Makes P ι ρ' o ob f w := by
  unfold aalloc at h
  cases ho : o.op <;> simp only [ho] at h <;> first | (cases h; done) | skip
  case alloc t =>
    cases ht : E.ty.get t with
    | none => rw [ht] at h; cases h
    | some ti =>
      simp only [ht] at h
      cases h
      have hT := hE.ty _ _ ht
      obtain ⟨z, hz, hzc, _⟩ := hT.run_zero w
      refine makes_cells (c := z.cells) (e := t) (v' := .pointer (some ⟨w.heap.size, 0, none⟩)) ?_ ?_ ?_
      · rw [hzc]; exact .self fun v hv => plainV_VR (hT.plain v hv)
      · unfold execOp; simp only [ho]
        simp only [Instr.alloc, Sem.run_bind, hz, Result.andThen_ok, newVar, newRow, run_newObj, Sem.run_pure]
        rfl
      · rintro nm ni rfl; exact makes_ptr
  case box t x =>
    cases hx : ρ x with
    | none => rw [hx] at h; cases h
    | some v =>
      simp only [hx] at h
      cases h
      refine makes_cells (c := (ρ' x).cells) (e := t) (v' := .pointer (some ⟨w.heap.size, 0, none⟩)) (hρ _ _ hx).cells ?_ ?_
      · unfold execOp; simp only [ho]
        simp only [Instr.box, Sem.run_bind, Result.andThen_ok, newVar, newRow, run_newObj, Sem.run_pure]
        rfl
      · rintro nm ni rfl; exact makes_ptr
  case buildSlice t len parts =>
    cases ht : E.ty.get t with
    | none => rw [ht] at h; cases h
    | some ti => cases hp : evalP ρ parts.toList with
      | none => rw [ht, hp] at h; cases h
      | some vs =>
        rw [ht, hp] at h
        simp only at h
        have hT := hE.ty _ _ ht
        have hu := hT.und
        cases hd : ti.und <;> simp only [hd] at h hu <;> first | (cases h; done) | skip
        rename_i e
        cases he : E.ty.get e with
        | none => rw [he] at h; cases h
        | some te =>
          simp only [he] at h
          have hTe := hE.ty _ _ he
          cases hc : (Nat.blt 0 te.size && Nat.ble (len * te.size) 16777216 && sizeIs te.size te.zero) with
          | false => rw [hc] at h; cases h
          | true =>
            rw [hc] at h
            simp only [cond_true] at h
            simp only [Bool.and_eq_true, sizeIs_iff] at hc
            obtain ⟨⟨hc1, hc2⟩, hc3⟩ := hc
            have hc1 : 0 < te.size := by
              have : Nat.ble 1 te.size = true := hc1
              exact Nat.le_of_ble_eq_true this
            have hc2 : len * te.size ≤ 16777216 := Nat.le_of_ble_eq_true hc2
            cases hf : fillA te.size vs (repN len te.zero) with
            | none => rw [hf] at h; cases h
            | some cs =>
              simp only [hf] at h
              cases h
              obtain ⟨z, hz, hzc, _⟩ := hTe.run_zero w
              have hzs : z.cells.size = te.size := by rw [← Array.length_toList, hzc]; exact hc3
              have hpr := evalP_PR hρ hp
              have hrep : LR ι (repN len te.zero) (⟨repN len te.zero⟩ : Array Value).toList := by
                refine .self fun v hv => plainV_VR ?_
                have : ∀ n, ∀ v ∈ repN n te.zero, v ∈ te.zero := by
                  intro n
                  induction n with
                  | zero => intro v hv; simp [repN] at hv
                  | succ n ih => intro v hv; simp only [repN, List.mem_append] at hv; rcases hv with hv | hv; exact hv; exact ih v hv
                exact hTe.plain v (this _ v hv)
              obtain ⟨c', h1, h2⟩ := fillA_fill hpr hrep hf
              refine makes_cells (c := c') (e := e) (v' := .slice (some ⟨w.heap.size, 0, none⟩) len len) h2 ?_ ?_
              · have hparts : (parts.map fun (i, x) => (i, ρ' x)).toList = parts.toList.map fun (i, x) => (i, ρ' x) := by simp
                unfold execOp; simp only [ho]
                simp only [Instr.buildSlice, Sem.run_bind, run_underlying hu, Result.andThen_ok, hTe.run_size]
                rw [if_neg (by omega)]
                by_cases h0 : len * te.size = 0
                · have hl0 : len = 0 := by
                    rcases Nat.mul_eq_zero.1 h0 with h | h
                    · exact h
                    · omega
                  subst hl0
                  simp only [h0, if_true, Sem.run_bind, Sem.run_pure, Result.andThen_ok, hparts]
                  have : ((Array.range 0).map fun x => (#[] : Array Value)[x % (#[] : Array Value).size]!) = (⟨repN 0 te.zero⟩ : Array Value) := by simp [repN]
                  rw [this, h1]
                  simp only [Sem.run_bind, newRow, run_newObj, Result.andThen_ok, Sem.run_pure]
                  rfl
                · simp only [h0, if_false, Sem.run_bind, hz, Sem.run_pure, Result.andThen_ok, hparts]
                  have : ((Array.range (len * te.size)).map fun x => z.cells[x % z.cells.size]!) = (⟨repN len te.zero⟩ : Array Value) := by
                    rw [← hzs, rep_eq len z.cells (by omega), hzc]
                  rw [this, h1]
                  simp only [Sem.run_bind, newRow, run_newObj, Result.andThen_ok, Sem.run_pure]
                  rfl
              · rintro nm ni rfl; exact makes_slice
  case makeSlice t l c =>
    cases ht : E.ty.get t with
    | none => rw [ht] at h; cases h
    | some ti => cases hl : ρ l with
      | none => rw [ht, hl] at h; cases h
      | some lv => cases hc : ρ c with
        | none => rw [ht, hl, hc] at h; cases lv <;> cases h
        | some cv =>
          rw [ht, hl, hc] at h
          cases lv <;> cases cv <;> first | (cases h; done) | skip
          · rename_i k1 ln k2 cn
            simp only at h
            have hu := (hE.ty _ _ ht).und
            cases hd : ti.und <;> simp only [hd] at h hu <;> first | (cases h; done) | skip
            rename_i e
            cases he : E.ty.get e with
            | none => rw [he] at h; cases h
            | some te =>
              simp only [he] at h
              have hTe := hE.ty _ _ he
              split at h
              · rename_i hb
                cases h
                obtain ⟨b1, b2, b3, b4, b5, b6⟩ := hb
                have hrep : LR ι (repN cn.toNat te.zero) (⟨repN cn.toNat te.zero⟩ : Array Value).toList := by
                  refine .self fun v hv => plainV_VR ?_
                  have : ∀ n, ∀ v ∈ repN n te.zero, v ∈ te.zero := by
                    intro n
                    induction n with
                    | zero => intro v hv; simp [repN] at hv
                    | succ n ih => intro v hv; simp only [repN, List.mem_append] at hv; rcases hv with hv | hv; exact hv; exact ih v hv
                  exact hTe.plain v (this _ v hv)
                refine makes_cells (c := ⟨repN cn.toNat te.zero⟩) (e := e) (v' := .slice (some ⟨w.heap.size, 0, none⟩) ln.toNat cn.toNat) hrep ?_ ?_
                · exact makeSlice_run hE ho ht hd he (int_of hρ hl) (int_of hρ hc) b1 b2 b3 b4 b5 b6
                · rintro nm ni rfl; exact makes_slice
              · cases h
          · rename_i k1 ln m1 k2 cn m2
            simp only at h
            cases hd : ti.und <;> simp only [hd] at h <;> first | (cases h; done) | skip
            rename_i e
            cases he : E.ty.get e with
            | none => rw [he] at h; cases h
            | some te =>
              simp only [he] at h
              cases hck : (Nat.beq ln cn && E.room ln && Nat.ble te.bytes 1000 && Nat.blt 0 te.size && sizeIs te.size te.zero) with
              | false => rw [hck] at h; cases h
              | true =>
                rw [hck] at h; simp only [cond_true] at h; cases h
                simp only [Bool.and_eq_true] at hck
                obtain ⟨⟨⟨⟨c1, c2⟩, c3⟩, c4⟩, c5⟩ := hck
                have e1 := Nat.eq_of_beq_eq_true c1
                subst e1
                obtain ⟨k, m, hs, hm0, hm1⟩ := hE.room _ c2
                have hl' : ρ' l = .int k m := by
                  have := hρ _ _ hl
                  generalize ρ' l = y at this
                  cases this; exact hs
                have hc' : ρ' c = .int k m := by
                  have := hρ _ _ hc
                  generalize ρ' c = y at this
                  cases this; exact hs
                have hb := Nat.le_of_ble_eq_true c3
                have hmul : m.toNat * te.bytes ≤ 5000 * 1000 := Nat.mul_le_mul hm1 hb
                have hmost : most = 1099511627776 := rfl
                have hsz : 0 < te.size := Nat.le_of_ble_eq_true (show Nat.ble (0 + 1) te.size = true from c4)
                refine ⟨_, _, ⟨w.heap.size, 0, 0, 0, none⟩, makeSlice_run hE ho ht hd he hl' hc' hm0 (Int.le_refl _) (by omega) (by omega) hsz c5, rfl, fun _ => by simp [fzObj], fun nm hn => ⟨⟨⟨repN m.toNat te.zero⟩, e, (0, 0), by rw [wpush_get]; simp, rfl, rfl, Nat.zero_le _, ?_, ?_, ?_, ?_⟩, .any _ _ _ rfl⟩⟩
                · simp only [piece, List.take_zero]; exact .nil
                · intro h; cases h
                · intro _ h; cases h
                · intro k hk; cases hk
  case makeMap t r =>
    cases ht : E.ty.get t with
    | none => rw [ht] at h; cases h
    | some ti => cases hr : oev ρ r with
      | none => rw [ht, hr] at h; cases h
      | some rv =>
        rw [ht, hr] at h
        simp only at h
        have hT := hE.ty _ _ ht
        have hu := hT.und
        cases hd : ti.und <;> simp only [hd] at h hu <;> first | (cases h; done) | skip
        have hov := oev_OV hρ hr
        have fin : ob = .map [] 0 → f = (fun n => Value.map (some n)) → (execOp ρ' o).run P w = .ok (.value (.map (some w.heap.size))) (wpush w (.map #[] 0)) → Makes P ι ρ' o ob f w := by
          rintro rfl rfl hrun
          refine ⟨_, _, ⟨w.heap.size, 0, 0, 0, none⟩, hrun, rfl, fun _ => rfl, fun nm hn => ⟨⟨#[], by rw [wpush_get]; simp, .nil⟩, ?_⟩⟩
          exact VR.map nm _ (upd_same ..)
        cases rv with
        | none =>
          simp only at h; cases h
          generalize hrr : r.map ρ' = rr at hov
          cases hov
          refine fin rfl rfl ?_
          unfold execOp; simp only [ho, hrr]
          simp only [Instr.makeMap, Sem.run_bind, run_newObj, Result.andThen_ok, Sem.run_pure]
          rfl
        | some v =>
          cases v <;> (try simp only at h) <;> first | (cases h; done) | skip
          cases h
          generalize hrr : r.map ρ' = rr at hov
          cases hov with
          | some _ v' hv =>
            rw [hv.plain_eq.1 _ _ rfl] at hrr
            refine fin rfl rfl ?_
            unfold execOp; simp only [ho, hrr]
            simp only [Instr.makeMap, Sem.run_bind, run_underlying hu, asInt, asIntOf, run_newObj, Result.andThen_ok, Sem.run_pure]
            rfl
  case makeChan t x =>
    (try simp only at h)
    cases ht : E.ty.get t with
    | none => rw [ht] at h; cases h
    | some ti => cases hx : ρ x with
      | none => rw [ht, hx] at h; cases h
      | some xv =>
        rw [ht, hx] at h
        cases xv <;> first | (cases h; done) | skip
        rename_i k n
        (try simp only at h)
        have hT := hE.ty _ _ ht
        have hu := hT.und
        cases hd : ti.und <;> simp only [hd] at h hu <;> first | (cases h; done) | skip
        rename_i dir e
        cases he : E.ty.get e with
        | none => rw [he] at h; cases h
        | some te =>
          simp only [he] at h
          have hTe := hE.ty _ _ he
          obtain ⟨inf, hinf, _, hby⟩ := hTe.run_info w
          split at h
          · rename_i hb
            cases h
            have hmost : most = 1099511627776 := rfl
            have hbig : ¬ ((inf.bytes : Int) * n > 2 ^ 48 - 112) := by
              rw [hby]
              have : ((te.bytes : Int) * n) = ((n.toNat * te.bytes : Nat) : Int) := by
                rw [Int.natCast_mul, Int.toNat_of_nonneg (by omega), Int.mul_comm]
              rw [this]; omega
            have hmx : IntKind.i64.max = 9223372036854775807 := by decide
            refine ⟨.chan (some w.heap.size), .chan n.toNat #[] false 0 0 false, ⟨w.heap.size, 0, 0, 0, none⟩, ?_, rfl, fun _ => rfl, fun nm hn => ⟨⟨#[], 0, 0, by rw [wpush_get]; simp, .nil⟩, VR.chan nm _ (upd_same ..)⟩⟩
            unfold execOp; simp only [ho, int_of hρ hx]
            simp only [Instr.makeChan, Sem.run_bind, run_underlying hu, asInt, asIntOf, hinf, Result.andThen_ok, Sem.run_pure]
            rw [if_neg (by rw [hmx]; rintro (h1 | h2 | h3) <;> first | omega | exact hbig h3)]
            simp only [Sem.run_bind, run_newObj, Result.andThen_ok, Sem.run_pure]
            rfl
          · cases h

end
end Go.Sh
