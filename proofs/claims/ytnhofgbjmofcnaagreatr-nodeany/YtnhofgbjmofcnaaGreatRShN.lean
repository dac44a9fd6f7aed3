/-
  A shadow interpreter for the model's operations: append, copy, clear, delete; every operation that writes is met. (No program in it.)
-/
import Derived.Test.YtnhofgbjmofcnaaGreatRShM
namespace Go.Sh
open Go

variable [Sg : Sig]

omit Sg in
theorem growBy_le (n : Nat) : ∀ (r c : Nat), 256 ≤ c → c < n → Builtin.growBy n r c ≤ 2 ^ r * n := by
  intro r
  induction r with
  | zero => intro c _ h; simp [Builtin.growBy]; omega
  | succ r ih =>
    intro c h1 h2
    unfold Builtin.growBy
    rw [if_neg (by omega)]
    by_cases h3 : c + (c + 768) / 4 < n
    · have := ih _ (by omega) h3
      have e : 2 ^ (r + 1) * n = 2 ^ r * n + 2 ^ r * n := by rw [Nat.pow_succ, Nat.mul_assoc, Nat.two_mul, Nat.mul_add]
      omega
    · have h4 : c + (c + 768) / 4 ≤ 2 * n := by omega
      have : Builtin.growBy n r (c + (c + 768) / 4) = c + (c + 768) / 4 := by
        cases r with
        | zero => rfl
        | succ r => unfold Builtin.growBy; rw [if_pos (by omega)]
      rw [this]
      have hp : 1 ≤ 2 ^ r := Nat.one_le_two_pow
      have e : 2 ^ (r + 1) * n = 2 ^ r * (2 * n) := by rw [Nat.pow_succ, Nat.mul_assoc]
      rw [e]
      calc c + (c + 768) / 4 ≤ 1 * (2 * n) := by omega
        _ ≤ 2 ^ r * (2 * n) := Nat.mul_le_mul_right _ hp

omit Sg in
theorem nextslicecap_le {n c : Nat} (h : c < n) : Builtin.nextslicecap n c ≤ 16 * n := by
  unfold Builtin.nextslicecap
  split
  · omega
  · split
    · omega
    · have := growBy_le n 4 c (by omega) h
      simpa using this

omit Sg in
theorem zeroCells_size (z : Array Value) (n : Nat) : (Builtin.zeroCells z n).size = n * z.size := by simp [Builtin.zeroCells]

omit Sg in
theorem zeroCells_eq (z : Array Value) (n : Nat) (hz : 0 < z.size) : Builtin.zeroCells z n = ⟨repN n z.toList⟩ := rep_eq n z hz

section
variable {E : Env} {P : Program} {ι : Inj} {ρ : Operand → Option Value} {ρ' : Operand → Value} {s s' : St} {w : World}

theorem lenOf_run {x x' : Value} {n : Nat} (h : lenOf x = some n) (hx : VR ι x x') : (Builtin.lenOf x').run P w = .ok n w := by
  cases x <;> simp only [lenOf] at h <;> first | (cases h; done) | skip
  · cases h
    rw [hx.plain_eq.2.2 _ rfl]; simp [Builtin.lenOf]
  · cases h
    cases hx <;> simp [Builtin.lenOf]

/-- The first elements of a slice, or bytes of a string. -/
theorem firstN_run (hs : SR ι s w) {size n m : Nat} {x x' : Value} {r : List Value} (h : firstN s size n x = some r) (hx : VR ι x x') (hl : lenOf x = some m) (hnm : n ≤ m) :
    ∃ r' : List Value, LR ι r r' ∧ ∀ P, (Builtin.firstCells size n x').run P w = .ok ⟨r'⟩ w := by
  cases x <;> simp only [firstN] at h <;> first | (cases h; done) | skip
  case string b =>
    cases h
    rw [hx.plain_eq.2.2 _ rfl]
    refine ⟨(b.data.toList.take n).map fun c => Value.int .u8 c.toNat, .self ?_, fun P => ?_⟩
    · intro v hv
      obtain ⟨c, _, rfl⟩ := List.mem_map.1 hv
      exact .int _ _
    · simp only [Builtin.firstCells, Sem.run_pure]
      congr 1
      apply array_eq_of_toList
      have : (b.extract 0 n).data.toList = b.data.toList.take n := by rw [extract_list b 0 n (by omega)]; simp
      simp only [Array.toList_map]
      rw [this]
  case slice a l c =>
    cases a with
    | none =>
      simp only [firstN] at h; cases h
      cases hx
      exact ⟨[], .nil, fun P => by simp [Builtin.firstCells]⟩
    | some a =>
      simp only [firstN] at h
      cases hg : s.heap.get a.block with
      | none => rw [hg] at h; cases h
      | some ob =>
        rw [hg] at h
        cases ob <;> (try simp only at h) <;> first | (cases h; done) | skip
        rename_i cs esz ro
        cases hsp : a.spot.isSome with
        | true => rw [hsp] at h; cases h
        | false =>
          simp only [hsp, cond_false] at h
          rcases hx.slice_some with ⟨nm, off, ni, cap', rfl, hni, rfl, _, _⟩ | ⟨a', rfl, rfl, rfl⟩
          · obtain ⟨r', h1, _, h2⟩ := hs.row hg hni h
            exact ⟨r', h1, fun P => by simp [Builtin.firstCells, h2 P]⟩
          · simp only [lenOf] at hl; cases hl
            obtain rfl : n = 0 := by omega
            simp only [Nat.zero_mul, takeN] at h
            cases h
            exact ⟨[], .nil, fun P => by simp [Builtin.firstCells, loadCells, loadCellsFrom]⟩

theorem builtin_does {o : Oper} {c : Call} {b : Builtin} {v : Value} (ho : o.op = .call c) (hcc : c.callee = .builtin b) {f : Array TypeId → TypeId → Array Value → Sem Value}
    (hb : ∀ t consts args, builtin b c.argTypes t consts args = (do pure (.value (← f c.argTypes t args)))) {v' : Value} {w' : World} {ι' : Inj}
    (hr : ∀ t, (f c.argTypes t (c.args.map ρ')).run P w = .ok v' w') (hv : VR ι' v v') (hp : Post ι s w ι' s' w') : Does P ι s ρ' o v s' w := by
  refine ⟨.value v', v', w', ι', ?_, .inl rfl, hv, hp⟩
  unfold execOp
  simp only [ho, resolve, hcc]
  simp only [Sem.run_bind, Sem.run_pure, Result.andThen_ok, invoke]
  rw [hb]
  simp only [Sem.run_bind, hr, Result.andThen_ok, Sem.run_pure]

/-- An append that grows: the new row. -/
theorem OR_grown {old new old' new' rest' : List Value} {c : Array Value} {e : TypeId} {size need newCap : Nat} (hold : LR ι old old') (hnew : LR ι new new') (hs0 : 0 < size)
    (hlen : (old ++ new).length = need * size) (hc : c.toList = old' ++ new' ++ rest') (hrest : rest'.length = (newCap - need) * size) (hcap : need ≤ newCap) {ι' : Inj} (hx : Ext ι ι') :
    OR ι' (wpush w (.cells c e (0, 0))) ⟨w.heap.size, 0, need * size, newCap * size, some size⟩ (.cells (old ++ new) (some size) false) := by
  have hl1 := hold.length
  have hl2 := hnew.length
  have hon : (old' ++ new').length = need * size := by rw [List.length_append, ← hl1, ← hl2, ← List.length_append]; exact hlen
  have hsize : c.size = newCap * size := by
    rw [← Array.length_toList, hc, List.length_append, hon, hrest, ← Nat.add_mul, show need + (newCap - need) = newCap from by omega]
  have hpc : need * size ≤ newCap * size := Nat.mul_le_mul_right _ hcap
  refine ⟨c, e, (0, 0), by rw [wpush_get]; simp, hlen, rfl, ?_, ?_, by intro _ off _; simp, fun h => by (cases h), ?_⟩
  · simp only [Nat.zero_add]; rw [hsize]; exact hpc
  · have : piece c 0 (need * size) = old' ++ new' := by
      unfold piece
      rw [hc, List.drop_zero, List.take_append_of_le_length (by rw [hon]; exact Nat.le_refl _)]
      exact List.take_of_length_le (by rw [hon]; exact Nat.le_refl _)
    show LR ι' _ (piece _ 0 (need * size))
    rw [this]
    exact (hold.append hnew).mono hx
  · intro k hk; cases hk; exact ⟨hs0, hsize⟩

/-- What an append asks of its types. -/
structure AppTy (P : Program) (ats : Array TypeId) (st xt e : TypeId) (ti tx te : TI) : Prop where
  h0 : ats[0]? = some st
  h1 : ats[1]? = some xt
  hs : P.underlying st = some ti.und
  hx : P.underlying xt = some tx.und
  hd : ti.und = .slice e
  hn : ∀ k, tx.und ≠ .int k
  he : TyOk P e te

omit Sg in
theorem append_in {ats : Array TypeId} {st xt e : TypeId} {ti tx te : TI} (hT : AppTy P ats st xt e ti tx te) {t : TypeId} {base' : Option Addr} {sLen sCap' n : Nat} {y1 : Value} {new' : List Value} {w' : World}
    (hle : sLen + n ≤ sCap') (hlen : (Builtin.lenOf y1).run P w = .ok n w) (hfirst : (Builtin.firstCells te.size n y1).run P w = .ok ⟨new'⟩ w)
    (hst : (base' = none ∧ w' = w) ∨ ∃ a, base' = some a ∧ (storeCells (a.add (sLen * te.size)) new').run P w = .ok () w') :
    (Builtin.append_ ats t ⟨[.slice base' sLen sCap', y1]⟩).run P w = .ok (.slice base' (sLen + n) sCap') w' := by
  have hs := hT.hs
  rw [hT.hd] at hs
  have hux := hT.hx
  have hnk := hT.hn
  generalize tx.und = xd at hux hnk
  unfold Builtin.append_
  simp only [hT.h0, hT.h1]
  have e0 : (⟨[Value.slice base' sLen sCap', y1]⟩ : Array Value)[0]? = some (.slice base' sLen sCap') := rfl
  have e1 : (⟨[Value.slice base' sLen sCap', y1]⟩ : Array Value)[1]? = some y1 := rfl
  simp only [e0, e1, Sem.run_bind, run_underlying hs, run_underlying hux, Result.andThen_ok, hT.he.run_size, Sem.run_pure]
  cases xd <;> first | (exact absurd rfl (hnk _)) | skip
  all_goals simp only [Bool.false_eq_true, if_false, Bool.not_false, if_true, Sem.run_bind, hlen, Result.andThen_ok]
  all_goals rw [if_pos hle]
  all_goals
    simp only [Sem.run_bind, hfirst, Result.andThen_ok]
    rcases hst with ⟨rfl, rfl⟩ | ⟨a, rfl, hst⟩
    · simp
    · simp only [Sem.run_bind, hst, Result.andThen_ok, Sem.run_pure]

omit Sg in
theorem append_out {ats : Array TypeId} {st xt e : TypeId} {ti tx te : TI} (hT : AppTy P ats st xt e ti tx te) {t : TypeId} {base' : Option Addr} {sLen sCap' n : Nat} {y1 : Value} {old' new' : List Value}
    (hle : sCap' < sLen + n) (hby : (sLen + n) * te.bytes ≤ most) (hmo : sLen + n ≤ most) (hsz : 0 < te.size) (hzl : te.zero.length = te.size) (hlen : (Builtin.lenOf y1).run P w = .ok n w)
    (hnew : (Builtin.firstCells te.size n y1).run P { w with drawn := w.drawn + 1 } = .ok ⟨new'⟩ { w with drawn := w.drawn + 1 })
    (hold : (Builtin.firstCells te.size sLen (.slice base' sLen sCap')).run P { w with drawn := w.drawn + 1 } = .ok ⟨old'⟩ { w with drawn := w.drawn + 1 }) :
    ∃ (newCap : Nat) (rest' : List Value) (c : Array Value), sLen + n ≤ newCap ∧ rest'.length = (newCap - (sLen + n)) * te.size ∧ c.toList = old' ++ new' ++ rest' ∧
      (Builtin.append_ ats t ⟨[.slice base' sLen sCap', y1]⟩).run P w = .ok (.slice (some ⟨w.heap.size, 0, none⟩) (sLen + n) newCap) (wpush { w with drawn := w.drawn + 1 } (.cells c e (0, 0))) := by
  have hs := hT.hs
  rw [hT.hd] at hs
  have hux := hT.hx
  have hnk := hT.hn
  generalize tx.und = xd at hux hnk
  obtain ⟨inf, hinf, _, hb⟩ := hT.he.run_info w
  obtain ⟨inf1, hinf1, _, hb1⟩ := hT.he.run_info { w with drawn := w.drawn + 1 }
  obtain ⟨z, hzr, hzc, _⟩ := hT.he.run_zero { w with drawn := w.drawn + 1 }
  have hmost : most = 1099511627776 := rfl
  have hmax : IntKind.i64.max = 9223372036854775807 := by decide
  have hns := nextslicecap_le hle
  have hbig : ¬ (Builtin.nextslicecap (sLen + n) sCap' * te.bytes > 2 ^ 48) := by
    have : Builtin.nextslicecap (sLen + n) sCap' * te.bytes ≤ 16 * (sLen + n) * te.bytes := Nat.mul_le_mul_right _ hns
    rw [Nat.mul_assoc] at this
    omega
  have hzs : z.cells.size = te.size := by rw [← Array.length_toList, hzc]; exact hzl
  have hq : ∀ (o : Nat) (el : TypeId), (Question.appendCap (sLen + n) o el).forced = false := fun _ _ => rfl
  have hcap : ∀ tp, sLen + n ≤ (Question.appendCap (sLen + n) sCap' e).cut tp := fun tp => by
    simp only [Question.cut]; omega
  refine ⟨(Question.appendCap (sLen + n) sCap' e).cut (w.tape w.drawn (Question.appendCap (sLen + n) sCap' e)),
    (Builtin.zeroCells z.cells ((Question.appendCap (sLen + n) sCap' e).cut (w.tape w.drawn (Question.appendCap (sLen + n) sCap' e)) - (sLen + n))).toList,
    ⟨old'⟩ ++ ⟨new'⟩ ++ Builtin.zeroCells z.cells ((Question.appendCap (sLen + n) sCap' e).cut (w.tape w.drawn (Question.appendCap (sLen + n) sCap' e)) - (sLen + n)), hcap _, ?_, ?_, ?_⟩
  · rw [Array.length_toList, zeroCells_size, hzs]
  · simp
  · unfold Builtin.append_
    simp only [hT.h0, hT.h1]
    have e0 : (⟨[Value.slice base' sLen sCap', y1]⟩ : Array Value)[0]? = some (.slice base' sLen sCap') := rfl
    have e1 : (⟨[Value.slice base' sLen sCap', y1]⟩ : Array Value)[1]? = some y1 := rfl
    simp only [e0, e1, Sem.run_bind, run_underlying hs, run_underlying hux, Result.andThen_ok, hT.he.run_size, Sem.run_pure]
    cases xd <;> first | (exact absurd rfl (hnk _)) | skip
    all_goals
      simp only [Bool.false_eq_true, if_false, Bool.not_false, if_true, Sem.run_bind, hlen, Result.andThen_ok]
      rw [if_neg (by omega)]
      simp only [Sem.run_bind, hinf, hb, Result.andThen_ok, false_or]
      rw [if_neg (by rw [hmax]; rintro ⟨h1, _⟩; omega)]
      simp only [Sem.run_bind, Sem.run_pure, Result.andThen_ok, hinf, hb]
      rw [if_neg hbig]
      simp only [Sem.run_bind, Sem.run_pure, Result.andThen_ok, run_choose, hq, Bool.false_eq_true, if_false, hinf1, run_askRoom, hold, hnew, hzr, newRow, run_newObj]
      rfl

end
end Go.Sh
