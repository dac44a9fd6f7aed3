/-
  A shadow interpreter for the model's operations: every operation that reads is met. (No program in it.) A shadow interpreter for the model's operations: the operations that make something are met. (No program in it.)
-/
import Derived.Test.YtnhofgbjmofcnaaGreatRLc

namespace Go.Sh
open Go

variable [Sg : Sig]

/-! ### keys -/
/-- A struct key's parts, one by one. -/
def keyFields (b : Bool) (n : Nat) (cs : Array Value) : List Field → Sem Unit
  | [] => pure ()
  | f :: fs => do
    if f.name ≠ "_" then Instr.checkKey b n f.type (← part f.type cs f.offset)
    keyFields b n cs fs

omit Sg in
theorem run_checkKey_struct {P : Program} {w : World} (b : Bool) (n : Nat) (t : TypeId) (fs : Array Field) (cs : Array Value) (ht : P.underlying t = some (.struct fs)) :
    (Instr.checkKey b (n + 1) t (.agg cs)).run P w = (keyFields b n cs fs.toList).run P w := by
  simp only [Instr.checkKey, Sem.run_bind, run_underlying ht, Result.andThen_ok]
  rw [← Array.forIn_toList]
  generalize fs.toList = l
  clear ht
  induction l generalizing w with
  | nil => simp [keyFields]
  | cons f l ih =>
    simp only [List.forIn_cons, keyFields, Sem.run_bind, Sem.run_ite]
    split
    · generalize (part f.type cs f.offset).run P w = r1
      cases r1 with
      | ok a w1 =>
        simp only [Result.andThen_ok]
        generalize (Instr.checkKey b n f.type a).run P w1 = r2
        cases r2 with
        | ok u w2 => simp only [Result.andThen_ok, Sem.run_pure]; exact ih
        | halt x w2 => simp [Result.andThen]
      | halt x w1 => simp [Result.andThen]
    · simp only [Sem.run_pure, Result.andThen_ok]
      exact ih

def keyElems (b : Bool) (n : Nat) (e : TypeId) (k : Nat) (cs : Array Value) : List Nat → Sem Unit
  | [] => pure ()
  | i :: is => do
    Instr.checkKey b n e (← part e cs (i * k))
    keyElems b n e k cs is

omit Sg in
theorem run_checkKey_array {P : Program} {w : World} (b : Bool) (n : Nat) (t : TypeId) (len : Nat) (e : TypeId) (k : Nat) (cs : Array Value) (ht : P.underlying t = some (.array len e))
    (hs : ∀ w, (sizeOf e).run P w = .ok k w) : (Instr.checkKey b (n + 1) t (.agg cs)).run P w = (keyElems b n e k cs (List.range' 0 len)).run P w := by
  simp only [Instr.checkKey, Sem.run_bind, run_underlying ht, Result.andThen_ok]
  rw [Std.Legacy.Range.forIn_eq_forIn_range']
  simp only [Std.Legacy.Range.size, Nat.sub_zero, Nat.add_sub_cancel, Nat.div_one]
  generalize List.range' 0 len 1 = is
  clear ht
  induction is generalizing w with
  | nil => simp [keyElems]
  | cons i is ih =>
    simp only [List.forIn_cons, keyElems, Sem.run_bind, hs, Result.andThen_ok]
    generalize (part e cs (i * k)).run P w = r1
    cases r1 with
    | ok a w1 =>
      simp only [Result.andThen_ok]
      generalize (Instr.checkKey b n e a).run P w1 = r2
      cases r2 with
      | ok u w2 => simp only [Result.andThen_ok, Sem.run_pure]; exact ih
      | halt x w2 => simp [Result.andThen]
    | halt x w1 => simp [Result.andThen]

theorem keyOk_run {E : Env} {P : Program} (hE : E.Ok P) {ι : Inj} {w : World} (b : Bool) : ∀ (n : Nat) {t : Nat} {v v' : Value}, keyOk E n t v = true → VR ι v v' →
    ∀ d, n ≤ d → (Instr.checkKey b d t v').run P w = .ok () w := by
  intro n
  induction n with
  | zero => intro t v v' h; simp [keyOk] at h
  | succ n ih =>
    intro t v v' h hv d hd
    obtain ⟨d, rfl⟩ : ∃ k, d = k + 1 := ⟨d - 1, by omega⟩
    unfold keyOk at h
    cases ht : E.ty.get t with
    | none => rw [ht] at h; cases h
    | some ti =>
      simp only [ht] at h
      have hu := (hE.ty _ _ ht).und
      split at h
      · rename_i hd1; rw [hd1] at hu
        rw [hv.plain_eq.1 _ _ rfl]
        simp [Instr.checkKey, run_underlying hu]
      · rename_i hd1; rw [hd1] at hu
        rw [hv.plain_eq.2.2 _ rfl]
        simp [Instr.checkKey, run_underlying hu]
      · rename_i hd1; rw [hd1] at hu
        rw [hv.plain_eq.2.1 _ rfl]
        simp [Instr.checkKey, run_underlying hu]
      · rename_i fs cs hd1; rw [hd1] at hu
        cases hv with
        | agg xs ys hxy =>
          rw [run_checkKey_struct b d t fs ⟨ys⟩ hu]
          generalize fs.toList = l at h
          clear hd1 hu
          induction l with
          | nil => simp [keyFields]
          | cons f l ihl =>
            simp only [keyF, Bool.and_eq_true] at h
            have ht := ihl h.2
            unfold keyFields
            by_cases hn : f.name = "_"
            · simp [hn, ht]
            · have h1 := h.1
              rw [if_neg hn] at h1
              cases htf : E.ty.get f.type with
              | none => rw [htf] at h1; cases h1
              | some tf =>
                simp only [htf] at h1
                cases ha : partAt tf xs f.offset with
                | none => rw [ha] at h1; cases h1
                | some a =>
                  simp only [ha] at h1
                  obtain ⟨a', g1, g2⟩ := partAt_run (hE.ty _ _ htf) (cs' := ⟨ys⟩) hxy ha w
                  have g3 := ih h1 g2 d (by omega)
                  simp [hn, g1, g3, ht]
      · rename_i len e cs hd1; rw [hd1] at hu
        cases he : E.ty.get e with
        | none => rw [he] at h; cases h
        | some te =>
          simp only [he] at h
          cases hv with
          | agg xs ys hxy =>
            rw [run_checkKey_array b d t len e te.size ⟨ys⟩ hu (fun w => (hE.ty _ _ he).run_size w)]
            have : ∀ (m i : Nat), keyA (keyOk E n e) te m (i * te.size) xs = true → (keyElems b d e te.size ⟨ys⟩ (List.range' i m)).run P w = .ok () w := by
              intro m
              induction m with
              | zero => intro i _; simp [keyElems]
              | succ m ihm =>
                intro i hk
                simp only [keyA, Bool.and_eq_true] at hk
                simp only [List.range'_succ, keyElems]
                cases ha : partAt te xs (i * te.size) with
                | none => rw [ha] at hk; cases hk.1
                | some a =>
                  simp only [ha] at hk
                  obtain ⟨a', g1, g2⟩ := partAt_run (hE.ty _ _ he) (cs' := ⟨ys⟩) hxy ha w
                  have g3 := ih hk.1 g2 d (by omega)
                  have g4 := ihm (i + 1) (by rw [Nat.add_mul, Nat.one_mul]; exact hk.2)
                  simp [g1, g3, g4]
            exact this len 0 (by simpa using h)
      · cases h

/-! ### finding a key -/
theorem ER.get {ι : Inj} {es fs : List MapEntry} (h : ER ι es fs) {i : Nat} {e : MapEntry} (he : es[i]? = some e) : ∃ f, fs[i]? = some f ∧ VR ι e.key f.key ∧ VR ι e.val f.val ∧ e.born = f.born := by
  induction h generalizing i with
  | nil => simp at he
  | cons e' f' es fs hk hv hb hs ih =>
    cases i with
    | zero => simp at he; subst he; exact ⟨f', by simp, hk, hv, hb⟩
    | succ i => simpa using ih (by simpa using he)

/-- What a search for a key comes to, in the shadow and in the world. -/
def Found (i : Nat) (fs : List MapEntry) (r : Option Nat) (r' : Option (Nat × Value)) : Prop :=
  (r = none ∧ r' = none) ∨ ∃ j f, r = some (i + j) ∧ fs[j]? = some f ∧ r' = some (i + j, f.val)

omit Sg in
theorem Found.step {i : Nat} {f : MapEntry} {fs : List MapEntry} {r : Option Nat} {r' : Option (Nat × Value)} (h : Found (i + 1) fs r r') : Found i (f :: fs) r r' := by
  rcases h with ⟨h1, h2⟩ | ⟨j, g, h1, h2, h3⟩
  · exact .inl ⟨h1, h2⟩
  · refine .inr ⟨j + 1, g, ?_, by simpa using h2, ?_⟩
    · rw [h1]; congr 1; omega
    · rw [h3]; congr 2; omega

theorem findAsking_run {E : Env} {P : Program} (hE : E.Ok P) {ι : Inj} {s : St} {w : World} (hs : SR ι s w) {kt : Nat} {k k' : Value} (hk : VR ι k k') {es fs : List MapEntry} (he : ER ι es fs) :
    ∀ {i : Nat} {r : Option Nat}, findI E s kt k es i = some r → ∃ r', (Instr.findAsking kt k' fs i).run P w = .ok r' w ∧ Found i fs r r' := by
  induction he with
  | nil => intro i r h; simp [findI] at h; subst h; exact ⟨none, by simp [Instr.findAsking], .inl ⟨rfl, rfl⟩⟩
  | cons e f es fs hk1 hv1 hb1 hs1 ih =>
    intro i r h
    unfold findI at h
    cases ha : aeq E s 8 kt k e.key with
    | none => rw [ha] at h; cases h
    | some b =>
      have g : (Op.equal kt k' f.key).run P w = .ok b w := aeq_run hE hs 8 ha hk hk1 10000 (by omega)
      rw [ha] at h
      cases b
      · simp only at h
        obtain ⟨r', h1, h2⟩ := ih h
        exact ⟨r', by simp [Instr.findAsking, g, h1], h2.step⟩
      · simp only at h; cases h
        exact ⟨some (i, f.val), by simp [Instr.findAsking, g], .inr ⟨0, f, by simp, by simp, by simp⟩⟩

omit Sg in
theorem beqBytes (a b : ByteArray) : (a == b) = (a.data.toList == b.data.toList) := by
  rw [← toList_eq, ← toList_eq]; exact beq_toListBytes a b

theorem findNow_run {E : Env} {P : Program} (hE : E.Ok P) {ι : Inj} {s : St} {kt : Nat} {ti : TI} (ht : E.ty.get kt = some ti) (hp : isInt ti.und = true) {k k' : Value} (hk : VR ι k k') {es fs : List MapEntry} (he : ER ι es fs) :
    ∀ {i : Nat} {r : Option Nat}, findI E s kt k es i = some r → ∃ r', Instr.findNow ti.und k' fs i = some r' ∧ Found i fs r r' := by
  induction he with
  | nil => intro i r h; simp [findI] at h; subst h; exact ⟨none, by simp [Instr.findNow], .inl ⟨rfl, rfl⟩⟩
  | cons e f es fs hk1 hv1 hb1 hs1 ih =>
    intro i r h
    unfold findI at h
    cases ha : aeq E s 8 kt k e.key with
    | none => rw [ha] at h; cases h
    | some b =>
      have g : Instr.sameNow ti.und k' f.key = some b := by
        unfold aeq at ha
        simp only [ht] at ha
        split at ha
        · rename_i hd hq; cases ha
          rw [hk.plain_eq.2.1 _ rfl, hk1.plain_eq.2.1 _ hq, hd]; rfl
        · rename_i hd hq
          rw [hk.plain_eq.1 _ _ rfl, hk1.plain_eq.1 _ _ hq, hd]
          split at ha
          · rename_i hkk; subst hkk; cases ha
            simp [Instr.sameNow]
          · cases ha
        · rename_i hd hq; cases ha
          rw [hk.plain_eq.2.2 _ rfl, hk1.plain_eq.2.2 _ hq, hd]
          simp only [Instr.sameNow, beqBytes]
        all_goals first | (cases ha; done) | (simp_all [isInt]; done)
      rw [ha] at h
      cases b
      · simp only at h
        obtain ⟨r', h1, h2⟩ := ih h
        exact ⟨r', by simp [Instr.findNow, g, h1], h2.step⟩
      · simp only at h; cases h
        exact ⟨some (i, f.val), by simp [Instr.findNow, g], .inr ⟨0, f, by simp, by simp, by simp⟩⟩

theorem findKey_run {E : Env} {P : Program} (hE : E.Ok P) {ι : Inj} {s : St} {w : World} (hs : SR ι s w) {kt : Nat} {k k' : Value} (hk : VR ι k k') (hok : keyOk E 6 kt k = true) {es fs : List MapEntry} (he : ER ι es fs)
    {r : Option Nat} (h : findI E s kt k es 0 = some r) : ∃ r', (Instr.findKey kt k' fs).run P w = .ok r' w ∧ Found 0 fs r r' := by
  unfold keyOk at hok
  cases ht : E.ty.get kt with
  | none => rw [ht] at hok; cases hok
  | some ti =>
    simp only [ht] at hok
    have hu := (hE.ty _ _ ht).und
    by_cases hp : isInt ti.und = true
    · obtain ⟨r', h1, h2⟩ := findNow_run hE ht hp hk he h
      exact ⟨r', by simp [Instr.findKey, run_underlying hu, h1], h2⟩
    · obtain ⟨r', h1, h2⟩ := findAsking_run hE hs hk he h
      cases he with
      | nil =>
        simp [Instr.findAsking] at h1
        subst h1
        exact ⟨none, by simp [Instr.findKey, run_underlying hu, Instr.findNow], h2⟩
      | cons e f es fs hk1 hv1 hb1 hs1 =>
        have hnow : Instr.findNow ti.und k' (f :: fs) 0 = none := by
          have : Instr.sameNow ti.und k' f.key = none := by
            cases hd : ti.und <;> simp [hd, isInt] at hp <;> simp [Instr.sameNow]
          simp [Instr.findNow, this]
        exact ⟨r', by simp [Instr.findKey, run_underlying hu, hnow, h1], h2⟩

/-! ### the others -/
theorem zeroOf_run {P : Program} {ι : Inj} {t : Nat} {ti : TI} (hT : TyOk P t ti) {z : Value} (h : zeroOf ti = some z) (w : World) : (zeroValue t).run P w = .ok z w ∧ VR ι z z := by
  obtain ⟨z', h1, h2, h3, h4⟩ := hT.run_zero w
  unfold zeroOf at h
  cases ha : isAgg ti.und with
  | true =>
    simp only [ha, cond_true] at h; cases h
    exact ⟨by rw [h1, h3 ha], .agg _ _ (.self fun v hv => plainV_VR (hT.plain v hv))⟩
  | false =>
    simp only [ha, cond_false] at h
    have := h4 ha
    rw [this] at h
    simp at h; subst h
    exact ⟨h1, plainV_VR (hT.plain z' (by rw [this]; simp))⟩

theorem bytesAt_run {P : Program} {ι : Inj} {w : World} : ∀ {r r' : List Value} {b : List UInt8} (acc : ByteArray), bytesAt r = some b → LR ι r r' →
    (forIn r' acc (fun c s => (match c with
      | .int .u8 n => pure (ForInStep.yield (s.push (UInt8.ofNat n.toNat)))
      | _ => (do
        stuck "bytesToString: byte expected"
        pure (ForInStep.yield s)) : Sem (ForInStep ByteArray)))).run P w = .ok (⟨acc.data ++ b.toArray⟩ : ByteArray) w := by
  intro r
  induction r with
  | nil => intro r' b acc h hl; cases hl; simp [bytesAt] at h; subst h; simp
  | cons v r ih =>
    intro r' b acc h hl
    cases hl with
    | cons _ y _ ys hy hs =>
      cases v <;> (try simp only [bytesAt] at h) <;> first | (cases h; done) | skip
      rename_i k n
      cases k <;> (try simp only [bytesAt] at h) <;> first | (cases h; done) | skip
      cases hr : bytesAt r with
      | none => rw [hr] at h; cases h
      | some b' =>
        rw [hr] at h; cases h
        rw [hy.plain_eq.1 _ _ rfl]
        have := ih (acc.push (UInt8.ofNat n.toNat)) hr hs
        simp only [List.forIn_cons, Sem.run_bind, Sem.run_pure, Result.andThen_ok]
        rw [this]
        congr 1
        simp [ByteArray.push]

section
variable {E : Env} {P : Program} {ι : Inj} {ρ : Operand → Option Value} {ρ' : Operand → Value} {s : St} {w : World}

theorem VR.plainly {a a' : Value} (va : VR ι a a') (hf : ∀ k n, a ≠ .float k n) (hc : ∀ k n m, a ≠ .complex k n m) :
    (a' = .nilIface → a = .nilIface) ∧ (∀ xs', a' = .agg xs' → ∃ xs, a = .agg xs) ∧ (∀ k n, a' = .int k n → a = .int k n) ∧ (∀ n, a' = .string n → a = .string n) ∧ (∀ k n, a' ≠ .float k n) ∧ (∀ k n m, a' ≠ .complex k n m) := by
  cases va <;> first | exact absurd rfl (hf _ _) | exact absurd rfl (hc _ _ _) | simp

omit Sg in
theorem aeq_plain {d t : Nat} {a b : Value} {r : Bool} (h : aeq E s d t a b = some r) : ((∀ k n, a ≠ .float k n) ∧ (∀ k n m, a ≠ .complex k n m)) ∧ ((∀ k n, b ≠ .float k n) ∧ (∀ k n m, b ≠ .complex k n m)) := by
  cases d with
  | zero => cases h
  | succ d =>
    simp only [aeq] at h
    cases ht : E.ty.get t with
    | none => rw [ht] at h; cases h
    | some ti =>
      rw [ht] at h; simp only at h
      refine ⟨⟨?_, ?_⟩, ⟨?_, ?_⟩⟩
      · rintro k n rfl; cases hd : ti.und <;> rw [hd] at h <;> cases h
      · rintro k n m rfl; cases hd : ti.und <;> rw [hd] at h <;> cases h
      · rintro k n rfl
        split at h <;> first | (cases h; done) | (rename_i hh; cases hh; done) | simp_all
      · rintro k n m rfl
        split at h <;> first | (cases h; done) | (rename_i hh; cases hh; done) | simp_all

theorem meets_eq (hE : E.Ok P) (hρ : Env' ι ρ ρ') (hs : SR ι s w) {o : Oper} {op : BinOp} {t : TypeId} {x y : Operand} {yt : TypeId} {v : Value} (ho : o.op = .binOp op t x y yt) (h : aread E ρ o s = some v) :
    Meets P ι ρ' o v w := by
  have main : ∀ (a b : Value) (r : Bool), ρ x = some a → ρ y = some b → aeq E s 8 t a b = some r → ¬ (a = .nilIface ∧ b = .nilIface) → (∀ k n, a ≠ .int k n) → (∀ n, a ≠ .string n) →
      (op = .eql ∧ v = .bool r ∨ op = .neq ∧ v = .bool (!r)) → Meets P ι ρ' o v w := by
    intro a b r hx hy ha hnil hni hns hop
    have va := hρ _ _ hx
    have vb := hρ _ _ hy
    obtain ⟨⟨pa1, pa2⟩, ⟨pb1, pb2⟩⟩ := aeq_plain ha
    obtain ⟨ia, ib, ic, id, ie, ig⟩ := va.plainly pa1 pa2
    obtain ⟨ja, _, _, _, _, _⟩ := vb.plainly pb1 pb2
    have heq : (Op.equal t (ρ' x) (ρ' y)).run P w = .ok r w := aeq_run hE hs 8 ha va vb 10000 (by omega)
    refine ⟨v, ?_, by rcases hop with ⟨_, rfl⟩ | ⟨_, rfl⟩ <;> exact .bool _⟩
    have hg : (eqGuard op t x y (ρ' x) (ρ' y)).run P w = .ok () w := by
      refine guard_run w ?_ ?_
      · rintro ⟨e1, e2⟩
        exact hnil ⟨ia e1, ja e2⟩
      · intro xs ys e1 e2
        unfold aeq at ha
        cases ht : E.ty.get t with
        | none => rw [ht] at ha; cases ha
        | some ti =>
          refine ((hE.ty _ _ ht).eqs ?_).1
          obtain ⟨us, rfl⟩ := ib _ e1
          simp only [ht] at ha
          cases hd : ti.und <;> simp only [hd] at ha <;> first | (cases ha; done) | rfl
    have hb : (binOp op t (ρ' x) (ρ' y)).run P w = .ok v w := by
      have hpl : ∀ (k : IntKind) n, ρ' x ≠ .int k n := by
        intro k n e; exact hni _ _ (ic _ _ e)
      have hps : ∀ n, ρ' x ≠ .string n := by
        intro n e; exact hns _ (id _ e)
      rcases hop with ⟨rfl, rfl⟩ | ⟨rfl, rfl⟩
      · have : binOp .eql t (ρ' x) (ρ' y) = (do pure (.bool (← Op.equal t (ρ' x) (ρ' y)))) := by
          cases hxx : ρ' x <;> cases hyy : ρ' y <;> first | rfl | (exact absurd hxx (hpl _ _)) | (exact absurd hxx (hps _)) | (exact absurd hxx (ie _ _)) | (exact absurd hxx (ig _ _ _))
        rw [this, Sem.run_bind, heq]; rfl
      · have : binOp .neq t (ρ' x) (ρ' y) = (do pure (.bool (!(← Op.equal t (ρ' x) (ρ' y))))) := by
          cases hxx : ρ' x <;> cases hyy : ρ' y <;> first | rfl | (exact absurd hxx (hpl _ _)) | (exact absurd hxx (hps _)) | (exact absurd hxx (ie _ _)) | (exact absurd hxx (ig _ _ _))
        rw [this, Sem.run_bind, heq]; rfl
    unfold execOp
    simp only [ho]
    simp [hg, hb]
  unfold aread at h
  simp only [ho] at h
  have go : ∀ (mk : Bool → Value), (match ρ x, ρ y with
      | some (.int _ _), _ => none
      | some (.string _), _ => none
      | some (.nilIface), some (.nilIface) => none
      | some a, some b => match aeq E s 8 t a b with
        | some r => some (mk r)
        | none => none
      | _, _ => none) = some v → (∀ r, v = mk r → op = .eql ∧ v = .bool r ∨ op = .neq ∧ v = .bool (!r)) → Meets P ι ρ' o v w := by
    intro mk h hop
    cases hx : ρ x with
    | none => rw [hx] at h; cases h
    | some a =>
      cases hy : ρ y with
      | none => rw [hx, hy] at h; cases a <;> cases h
      | some b =>
        rw [hx, hy] at h
        have h' : (match aeq E s 8 t a b with | some r => some (mk r) | none => none) = some v ∧ ¬ (a = .nilIface ∧ b = .nilIface) ∧ (∀ k n, a ≠ .int k n) ∧ (∀ n, a ≠ .string n) := by
          cases a with
          | int => cases h
          | string => cases h
          | nilIface => cases b <;> first | (cases h; done) | exact ⟨h, by simp, by simp, by simp⟩
          | _ => exact ⟨h, by simp, by simp, by simp⟩
        obtain ⟨h1, h2, h3, h4⟩ := h'
        cases ha : aeq E s 8 t a b with
        | none => rw [ha] at h1; cases h1
        | some r =>
          rw [ha] at h1
          exact main a b r hx hy ha h2 h3 h4 (hop r (by cases h1; rfl))
  cases op <;> simp only at h <;> first | (cases h; done) | skip
  · exact go (fun r => .bool r) h (fun r e => .inl ⟨rfl, e⟩)
  · exact go (fun r => .bool (!r)) h (fun r e => .inr ⟨rfl, e⟩)

theorem SR.map {n : Nat} {es : List MapEntry} {clock : Nat} (hs : SR ι s w) (hn : s.heap.get n = some (.map es clock)) {ni : NI} (hni : ι n = some ni) :
    ∃ es', w.heap[ni.blk]? = some (.map es' clock) ∧ ER ι es es'.toList := by
  obtain ⟨mi, h1, h2⟩ := hs.obj n _ hn
  rw [hni] at h1; cases h1
  obtain ⟨es', h3, h4, _⟩ := h2
  exact ⟨es', h3, h4⟩

theorem SR.stamped {n : Nat} {es : List MapEntry} {clock : Nat} (hs : SR ι s w) (hn : s.heap.get n = some (.map es clock)) : StampedL es clock := by
  obtain ⟨mi, h1, h2⟩ := hs.obj n _ hn
  obtain ⟨es', _, _, h3⟩ := h2
  exact h3

theorem VR.map_some {n : Nat} {v' : Value} (h : VR ι (.map (some n)) v') : ∃ ni, ι n = some ni ∧ v' = .map (some ni.blk) := by
  cases h with | map _ ni h => exact ⟨ni, h, rfl⟩

theorem VR.chan_some {n : Nat} {v' : Value} (h : VR ι (.chan (some n)) v') : ∃ ni, ι n = some ni ∧ v' = .chan (some ni.blk) := by
  cases h with | chan _ ni h => exact ⟨ni, h, rfl⟩

omit Sg in
theorem run_getMap {b : Nat} {es : Array MapEntry} {clock : Nat} (h : w.heap[b]? = some (.map es clock)) : (getObj b).run P w = .ok (.map es clock) w := by
  simp [getObj, Sem.run, h]

/-- A map's entries, as the reading of a map asks for them. -/
theorem mapOf_run (hs : SR ι s w) {m m' : Value} {es : List MapEntry} (h : mapOf s m = some es) (hm : VR ι m m') :
    ∃ es' : Array MapEntry, ER ι es es'.toList ∧ ((m' = .map none ∧ es' = #[]) ∨ ∃ b clock, m' = .map (some b) ∧ w.heap[b]? = some (.map es' clock)) := by
  cases m <;> simp only [mapOf] at h <;> first | (cases h; done) | skip
  rename_i r
  cases r with
  | none => simp only at h; cases h; cases hm; exact ⟨#[], .nil, .inl ⟨rfl, rfl⟩⟩
  | some n =>
    simp only at h
    cases hg : s.heap.get n with
    | none => rw [hg] at h; cases h
    | some o =>
      rw [hg] at h
      cases o <;> simp only at h <;> first | (cases h; done) | skip
      cases h
      obtain ⟨ni, hni, rfl⟩ := hm.map_some
      obtain ⟨es', h1, h2⟩ := hs.map hg hni
      exact ⟨es', h2, .inr ⟨ni.blk, _, rfl, h1⟩⟩

theorem meets_lookup (hE : E.Ok P) (hρ : Env' ι ρ ρ') (hs : SR ι s w) {o : Oper} {t : TypeId} {x i : Operand} {ok : Bool} {v : Value} (ho : o.op = .lookup t x i ok) (h : aread E ρ o s = some v) :
    Meets P ι ρ' o v w := by
  unfold aread at h
  simp only [ho] at h
  cases ht : E.ty.get t with
  | none => simp only [ht] at h; cases h
  | some ti => cases hx : ρ x with
    | none => simp only [ht, hx] at h; cases h
    | some m => cases hi : ρ i with
      | none => simp only [ht, hx, hi] at h; cases h
      | some k =>
        simp only [ht, hx, hi] at h
        have hu := (hE.ty _ _ ht).und
        cases hd : ti.und <;> simp only [hd] at h hu <;> first | (cases h; done) | skip
        rename_i kt et
        cases hm : mapOf s m with
        | none => simp only [hm] at h; cases h
        | some es => cases he : E.ty.get et with
          | none => simp only [hm, he] at h; cases h
          | some te =>
            simp only [hm, he] at h
            cases hok : keyOk E 6 kt k with
            | false => rw [hok] at h; cases h
            | true =>
              simp only [hok, cond_true] at h
              have vk := hρ _ _ hi
              obtain ⟨es', hes, hrun⟩ := mapOf_run hs hm (hρ _ _ hx)
              have hck := keyOk_run hE (w := w) es'.isEmpty 6 hok vk 10000 (by omega)
              cases hf : findI E s kt k es 0 with
              | none => rw [hf] at h; cases h
              | some r =>
                simp only [hf] at h
                obtain ⟨r', hr1, hr2⟩ := findKey_run hE hs vk hok hes hf
                have fin : ∀ (u : Value) (b : Bool) (u' : Value), VR ι u u' → v = cond ok (.tuple #[u, .bool b]) u →
                    ((r' = none ∧ b = false ∧ (zeroValue et).run P w = .ok u' w) ∨ (∃ i0, r' = some (i0, u') ∧ b = true)) → Meets P ι ρ' o v w := by
                  intro u b u' hu' hv' hmm
                  refine ⟨cond ok (.tuple #[u', .bool b]) u', ?_, ?_⟩
                  · unfold execOp
                    simp only [ho]
                    have hlook : (Instr.lookup t (ρ' x) (ρ' i) ok).run P w = .ok (cond ok (.tuple #[u', .bool b]) u') w := by
                      simp only [Instr.lookup, Sem.run_bind, run_underlying hu, Result.andThen_ok]
                      rcases hrun with ⟨e1, rfl⟩ | ⟨mb, clock, e1, hw⟩
                      · rw [e1]
                        rcases hmm with ⟨rfl, rfl, hz⟩ | ⟨i0, rfl, rfl⟩
                        · simp only [Sem.run_pure, Sem.run_bind, Result.andThen_ok, hck, hr1, hz]; cases ok <;> rfl
                        · simp only [Sem.run_pure, Sem.run_bind, Result.andThen_ok, hck, hr1]; cases ok <;> rfl
                      · rw [e1]
                        rcases hmm with ⟨rfl, rfl, hz⟩ | ⟨i0, rfl, rfl⟩
                        · simp only [Sem.run_pure, Sem.run_bind, Result.andThen_ok, run_getMap hw, hck, hr1, hz]; cases ok <;> rfl
                        · simp only [Sem.run_pure, Sem.run_bind, Result.andThen_ok, run_getMap hw, hck, hr1]; cases ok <;> rfl
                    simp [hlook]
                  · rw [hv']
                    cases ok
                    · exact hu'
                    · exact .tuple _ _ (.cons _ _ _ _ hu' (.cons _ _ _ _ (.bool _) .nil))
                rcases hr2 with ⟨rfl, rfl⟩ | ⟨j, f, rfl, hf2, rfl⟩
                · simp only at h
                  cases hz : zeroOf te with
                  | none => rw [hz] at h; cases h
                  | some z =>
                    simp only [hz] at h
                    cases h
                    obtain ⟨hz1, hz2⟩ := zeroOf_run (ι := ι) (hE.ty _ _ he) hz w
                    exact fin z false z hz2 rfl (.inl ⟨rfl, rfl, hz1⟩)
                · simp only [Nat.zero_add] at h
                  cases hej : es[j]? with
                  | none => rw [hej] at h; cases h
                  | some e =>
                    simp only [hej] at h
                    cases h
                    obtain ⟨f', hf3, _, hval, _⟩ := hes.get hej
                    rw [hf2] at hf3; cases hf3
                    exact fin e.val true f.val hval rfl (.inr ⟨_, rfl, rfl⟩)

theorem aread_meets (hE : E.Ok P) (hρ : Env' ι ρ ρ') (hs : SR ι s w) {o : Oper} {v : Value} (hc : cls E o.op = .read) (h : aread E ρ o s = some v) : Meets P ι ρ' o v w := by
  cases ho : o.op with
  | load t x =>
    unfold aread at h; simp only [ho] at h
    cases hx : ρ x with
    | none => rw [hx] at h; cases h
    | some a =>
      rw [hx] at h
      cases a <;> (try simp only at h) <;> first | (cases h; done) | skip
      rename_i a
      cases a with
      | none => cases h
      | some a =>
        simp only at h
        obtain ⟨n, off, ni, rfl, hni, hv'⟩ := (hρ _ _ hx).ptr_some
        obtain ⟨v', h1, h2⟩ := aload_run hE hs hni h
        refine ⟨v', ?_, h2⟩
        unfold execOp; simp only [ho, hv']
        simp [Instr.loadAt, Instr.sureAddr, h1]
  | slice t x lo hi mx =>
    unfold aread at h; simp only [ho] at h
    cases hx : ρ x with
    | none => simp only [hx] at h; cases h
    | some a => cases hl : oev ρ lo with
      | none => simp only [hx, hl] at h; cases h
      | some l => cases hh : oev ρ hi with
        | none => simp only [hx, hl, hh] at h; cases h
        | some h0 => cases hm : oev ρ mx with
          | none => simp only [hx, hl, hh, hm] at h; cases h
          | some m =>
            simp only [hx, hl, hh, hm] at h
            obtain ⟨v', h1, h2⟩ := aslice_run hE hs h (hρ _ _ hx) (oev_OV hρ hl) (oev_OV hρ hh) (oev_OV hρ hm)
            refine ⟨v', ?_, h2⟩
            unfold execOp; simp only [ho]
            simp [h1]
  | binOp op t x y yt => exact meets_eq hE hρ hs ho h
  | convert sT d x =>
    unfold aread at h; simp only [ho] at h
    simp only [ho, cls] at hc
    cases hob : ofBytes E sT with
    | false => rw [hob] at h; cases h
    | true =>
      simp only [hob, cond_true] at h
      obtain ⟨ts, e, te, hds, hse, hde, hte⟩ : ∃ ts e te, E.ty.get sT = some ts ∧ ts.und = .slice e ∧ E.ty.get e = some te ∧ te.und = .int .u8 := by
        unfold ofBytes at hob
        cases hds : E.ty.get sT with
        | none => rw [hds] at hob; cases hob
        | some ts =>
          simp only [hds] at hob
          cases hse : ts.und <;> simp only [hse] at hob <;> first | (cases hob; done) | skip
          rename_i e
          cases hde : E.ty.get e with
          | none => rw [hde] at hob; cases hob
          | some te =>
            simp only [hde] at hob
            split at hob
            · exact ⟨ts, e, te, rfl, hse, hde, ‹_›⟩
            · cases hob
      cases hdd : E.ty.get d with
      | none => rw [hds, hdd] at hc; cases hc
      | some td =>
        rw [hds, hdd] at hc
        simp only [hse] at hc
        have us := (hE.ty _ _ hds).und
        have ud := (hE.ty _ _ hdd).und
        have ue := (hE.ty _ _ hde).und
        have hst : td.und = .string := by
          cases h2 : td.und <;> simp only [h2] at hc <;> first | (cases hc; done) | rfl
        rw [hse] at us; rw [hst] at ud; rw [hte] at ue
        have fin : ∀ b, v = .string b → (Conv.bytesToString (ρ' x)).run P w = .ok (.string b) w → Meets P ι ρ' o v w := by
          intro b hb hr
          refine ⟨.string b, ?_, by rw [hb]; exact .string _⟩
          unfold execOp; simp only [ho]
          cases hxx : ρ' x <;> (rw [hxx] at hr) <;> (try (simp [Conv.bytesToString] at hr; done)) <;> simp [convert, run_underlying us, run_underlying ud, run_underlying ue, hr]
        cases hx : ρ x with
        | none => simp only [hx] at h; cases h
        | some a =>
          have va := hρ _ _ hx
          rw [hx] at h
          cases a <;> (try simp only at h) <;> first | (cases h; done) | skip
          rename_i a len cap
          cases a with
          | none =>
            simp only at h; cases h
            cases hxx : ρ' x <;> (rw [hxx] at va) <;> cases va
            exact fin _ rfl (by rw [hxx]; simp [Conv.bytesToString]; rfl)
          | some a =>
            simp only at h
            cases hg : s.heap.get a.block with
            | none => rw [hg] at h; cases h
            | some ob =>
              rw [hg] at h
              cases ob <;> (try simp only at h) <;> first | (cases h; done) | skip
              rename_i cs esz ro
              cases hsp : a.spot.isSome with
              | true => rw [hsp] at h; cases h
              | false =>
                simp only [hsp, cond_false] at h
                cases hr : takeN len (cs.drop a.off) with
                | none => rw [hr] at h; cases h
                | some r =>
                  simp only [hr] at h
                  cases hb : bytesAt r with
                  | none => rw [hb] at h; cases h
                  | some bs =>
                    simp only [hb] at h
                    cases h
                    have conv : ∀ (a' : Addr) (l' : Nat) (c' : Nat) (r' : List Value), ρ' x = .slice (some a') l' c' → (loadCells a' l').run P w = .ok ⟨r'⟩ w → LR ι r r' → Meets P ι ρ' o (.string ⟨bs.toArray⟩) w := by
                      intro a' l' c' r' e1 e2 e3
                      refine fin _ rfl ?_
                      rw [e1]
                      have := bytesAt_run (P := P) (w := w) ByteArray.empty hb e3
                      simp only [Conv.bytesToString, Sem.run_bind, e2, Result.andThen_ok]
                      rw [← Array.forIn_toList]
                      refine Eq.trans (congrArg (fun r => Result.andThen r fun a w' => Sem.run P (pure (Value.string a)) w') this) ?_
                      simp
                    rcases va.slice_some with ⟨n, off, ni, cap', rfl, hni, hv', _, _⟩ | ⟨a', rfl, rfl, hv'⟩
                    · obtain ⟨r', h1, h2, h3⟩ := hs.row hg hni hr
                      exact conv _ _ _ r' hv' (h3 P) h1
                    · simp [takeN] at hr; subst hr
                      exact conv _ _ _ [] hv' (by simp [loadCells, loadCellsFrom]) .nil
  | lookup t x i ok => exact meets_lookup hE hρ hs ho h
  | entry x =>
    unfold aread at h; simp only [ho] at h
    cases hx : ρ x with
    | none => rw [hx] at h; cases h
    | some a =>
      rw [hx] at h
      cases a <;> (try simp only at h) <;> first | (cases h; done) | skip
      rename_i a
      cases a with
      | none => cases h
      | some a =>
        simp only at h
        obtain ⟨n, off, ni, rfl, hni, hv'⟩ := (hρ _ _ hx).ptr_some
        cases hg : s.heap.get n with
        | none => simp only [hg] at h; cases h
        | some ob =>
          simp only [hg] at h
          cases ob <;> (try simp only at h) <;> first | (cases h; done) | skip
          rename_i m since seen stepped
          cases m with
          | none => cases h
          | some m =>
            simp only at h
            obtain ⟨mi, h1, h2⟩ := hs.obj n _ hg
            rw [hni] at h1; cases h1
            obtain ⟨m', hw1, hm, hd0⟩ := h2
            cases hm with
            | some _ mni hmi =>
              cases hgm : s.heap.get m with
              | none => simp only [hgm] at h; cases h
              | some om => cases hse : seen.getLast? with
                | none => simp only [hgm, hse] at h; cases om <;> cases h
                | some stamp =>
                  simp only [hgm, hse] at h
                  cases om <;> (try simp only at h) <;> first | (cases h; done) | skip
                  rename_i es clock
                  cases hcl : (Nat.beq clock stepped && Nat.beq off 0) with
                  | false => rw [hcl] at h; cases h
                  | true =>
                    simp only [hcl, cond_true] at h
                    simp only [nat_beq_eq, Bool.and_eq_true, decide_eq_true_eq] at hcl
                    obtain ⟨es', hw2, hes⟩ := hs.map hgm hmi
                    have hfind : ∀ {es fs : List MapEntry}, ER ι es fs → ∀ {e : MapEntry}, es.find? (fun e => Nat.beq e.born stamp) = some e → ∃ f, fs.find? (fun e => e.born == stamp) = some f ∧ VR ι e.key f.key ∧ VR ι e.val f.val := by
                      intro es fs hh
                      induction hh with
                      | nil => intro e he; simp at he
                      | cons e0 f0 es fs hk hvv hb _ ih =>
                        intro e he
                        simp only [List.find?_cons, nat_beq_eq] at he ⊢
                        rw [← hb]
                        by_cases hbb : e0.born = stamp
                        · simp only [hbb, decide_true] at he
                          cases he
                          exact ⟨f0, by simp [hbb], hk, hvv⟩
                        · simp only [hbb, decide_false] at he
                          obtain ⟨f, g1, g2⟩ := ih (by simpa [nat_beq_eq] using he)
                          exact ⟨f, by rw [show (e0.born == stamp) = false from by simpa using hbb]; exact g1, g2⟩
                    cases hf : es.find? (fun e => Nat.beq e.born stamp) with
                    | none => rw [hf] at h; cases h
                    | some e =>
                      simp only [hf] at h
                      cases h
                      obtain ⟨f, g1, g2, g3⟩ := hfind hes hf
                      refine ⟨.tuple #[f.key, f.val], ?_, .tuple _ _ (.cons _ _ _ _ g2 (.cons _ _ _ _ g3 .nil))⟩
                      have e0 : ni.d + off = 0 := by omega
                      have hback : (⟨seen⟩ : Array Nat).back? = some stamp := by
                        simp [Array.back?_eq_getElem?]
                        rw [← hse, List.getLast?_eq_getElem?]
                      have g1' : Array.find? (fun x => x.born == stamp) es' = some f := by
                        rw [← Array.find?_toList]; exact g1
                      unfold execOp
                      simp only [ho, hv', e0]
                      simp only [Instr.entry, Sem.run_bind, run_getMap hw2]
                      have hgi : (getObj ni.blk).run P w = .ok (.mapIter (some mni.blk) since ⟨seen⟩ stepped) w := by simp [getObj, Sem.run, hw1]
                      simp [hgi, hback, run_getMap hw2, hcl.1, g1']
  | call c =>
    unfold aread at h; simp only [ho] at h
    cases hcc : c.callee with
    | builtin b =>
      cases hev : evalL ρ c.args.toList with
      | none => simp only [hcc, hev] at h; cases b <;> cases h
      | some vs =>
        have hl := evalL_LR hρ hev
        cases vs with
        | nil => simp only [hcc, hev] at h; cases b <;> cases h
        | cons a0 vs =>
          cases hat : c.argTypes.toList with
          | nil => simp only [hcc, hev, hat] at h; cases b <;> cases h
          | cons t0 ts =>
            simp only [hcc, hev, hat] at h
            generalize hg0 : c.args.toList.map ρ' = ws at hl
            cases hl with
            | cons _ y _ ys hy hys =>
              have hargs : c.args.map ρ' = ⟨y :: ys⟩ := by apply array_eq_of_toList; simpa using hg0
              have htys : c.argTypes = ⟨t0 :: ts⟩ := by apply Array.ext'; simpa using hat
              have fin : ∀ (r : Value) (op : Sem Value), v = r → plainV r = true → (∀ consts, builtin b c.argTypes o.type consts (c.args.map ρ') = (do pure (.value (← op)))) → op.run P w = .ok r w → Meets P ι ρ' o v w := by
                intro r op hv hp hb hr
                subst hv
                refine ⟨v, ?_, plainV_VR hp⟩
                unfold execOp; simp only [ho, resolve, hcc]
                simp only [Sem.run_bind, Sem.run_pure, Result.andThen_ok, invoke]
                rw [hb]
                simp only [Sem.run_bind, hr, Result.andThen_ok, Sem.run_pure]
              cases b <;> simp only at h <;> first | (cases h; done) | skip
              case cap =>
                cases ht : E.ty.get t0 with
                | none => rw [ht] at h; cases h
                | some ti =>
                  simp only [ht] at h
                  have hu := (hE.ty _ _ ht).und
                  have go : ∀ r, v = r → plainV r = true → (Builtin.cap_ c.argTypes o.type (c.args.map ρ')).run P w = .ok r w → Meets P ι ρ' o v w := fun r h1 h2 h3 => fin r _ h1 h2 (fun _ => rfl) h3
                  split at h
                  · rename_i hd; rw [hd] at hu; cases h
                    cases hy
                    exact go _ rfl rfl (by rw [htys, hargs]; simp [Builtin.cap_, run_underlying hu, goInt])
                  · rename_i a len cap hd; rw [hd] at hu
                    cases hg : s.heap.get a.block with
                    | none => rw [hg] at h; cases h
                    | some ob =>
                      simp only [hg] at h
                      split at h
                      · rename_i cs ro heq
                        cases heq
                        cases hz : Nat.beq cap 0 with
                        | true => rw [hz] at h; cases h
                        | false =>
                          simp only [hz, cond_false] at h
                          cases h
                          rcases hy.slice_some with ⟨n, off, ni, cap', rfl, hni, rfl, hco, _⟩ | ⟨a', rfl, rfl, rfl⟩
                          · have hes : ni.esz = none := by obtain ⟨_, _, _, _, _, h3, _⟩ := hs.cells hg hni; exact h3
                            have hcc' : cap' = cap := by
                              rcases hco with rfl | ⟨k, _, hk, _⟩
                              · rfl
                              · rw [hes] at hk; cases hk
                            subst hcc'
                            exact go _ rfl rfl (by rw [htys, hargs]; simp [Builtin.cap_, run_underlying hu, goInt])
                          · simp [nat_beq_eq] at hz
                      · cases h
                  · rename_i r hd; rw [hd] at hu
                    cases hg : s.heap.get r with
                    | none => rw [hg] at h; cases h
                    | some ob =>
                      rw [hg] at h
                      cases ob <;> (try simp only at h) <;> first | (cases h; done) | skip
                      rename_i cp buf closed
                      cases h
                      obtain ⟨ni, hni, rfl⟩ := hy.chan_some
                      obtain ⟨mi, g1, g2⟩ := hs.obj _ _ hg
                      rw [hni] at g1; cases g1
                      obtain ⟨buf', sent, rec, hw, _⟩ := g2
                      have hgo : (getObj ni.blk).run P w = .ok (.chan cp buf' closed sent rec false) w := by simp only [getObj, Sem.run, hw]
                      exact go _ rfl rfl (by rw [htys, hargs]; simp [Builtin.cap_, run_underlying hu, goInt, hgo])
                  · cases h
              case len =>
                cases ht : E.ty.get t0 with
                | none => rw [ht] at h; cases h
                | some ti =>
                  simp only [ht] at h
                  have hu := (hE.ty _ _ ht).und
                  have go : ∀ r, v = r → plainV r = true → (Builtin.len_ c.argTypes o.type (c.args.map ρ')).run P w = .ok r w → Meets P ι ρ' o v w := fun r h1 h2 h3 => fin r _ h1 h2 (fun _ => rfl) h3
                  split at h
                  · rename_i b hd; rw [hd] at hu; cases h
                    rw [hy.plain_eq.2.2 _ rfl] at hargs
                    exact go _ rfl rfl (by rw [htys, hargs]; simp [Builtin.len_, run_underlying hu, goInt])
                  · rename_i hd; rw [hd] at hu; cases h
                    exact go _ rfl rfl (by rw [htys, hargs]; cases y <;> simp [Builtin.len_, run_underlying hu, goInt])
                  · rename_i hd; rw [hd] at hu; cases h
                    cases hy <;> exact go _ rfl rfl (by rw [htys, hargs]; simp [Builtin.len_, run_underlying hu, goInt])
                  · rename_i hd; rw [hd] at hu; cases h
                    cases hy
                    exact go _ rfl rfl (by rw [htys, hargs]; simp [Builtin.len_, run_underlying hu, goInt])
                  · rename_i r hd; rw [hd] at hu
                    cases hg : s.heap.get r with
                    | none => rw [hg] at h; cases h
                    | some ob =>
                      rw [hg] at h
                      cases ob <;> (try simp only at h) <;> first | (cases h; done) | skip
                      cases h
                      obtain ⟨ni, hni, rfl⟩ := hy.map_some
                      obtain ⟨es', hw, hes⟩ := hs.map hg hni
                      have hlen := hes.length
                      exact go _ rfl rfl (by rw [htys, hargs]; simp [Builtin.len_, run_underlying hu, goInt, run_getMap hw, hlen])
                  · rename_i r hd; rw [hd] at hu
                    cases hg : s.heap.get r with
                    | none => rw [hg] at h; cases h
                    | some ob =>
                      rw [hg] at h
                      cases ob <;> (try simp only at h) <;> first | (cases h; done) | skip
                      rename_i cp buf closed
                      cases h
                      obtain ⟨ni, hni, rfl⟩ := hy.chan_some
                      obtain ⟨mi, g1, g2⟩ := hs.obj _ _ hg
                      rw [hni] at g1; cases g1
                      obtain ⟨buf', sent, rec, hw, hbl⟩ := g2
                      have hlen := hbl.length
                      have hgo : (getObj ni.blk).run P w = .ok (.chan cp buf' closed sent rec false) w := by simp only [getObj, Sem.run, hw]
                      exact go _ rfl rfl (by rw [htys, hargs]; simp [Builtin.len_, run_underlying hu, goInt, hgo]; simp at hlen; omega)
                  · cases h
    | _ => simp only [hcc] at h; cases h
  | _ => unfold aread at h; simp only [ho] at h; cases h

end
end Go.Sh

namespace Go.Sh
open Go

variable [Sg : Sig]

omit Sg in
theorem repN_length : ∀ (n : Nat) (z : List Value), (repN n z).length = n * z.length := by
  intro n
  induction n with
  | zero => intro z; simp [repN]
  | succ n ih => intro z; simp [repN, ih, Nat.add_mul, Nat.add_comm]

omit Sg in
theorem repN_get : ∀ (n : Nat) (z : List Value) (i : Nat), i < n * z.length → (repN n z)[i]? = z[i % z.length]? := by
  intro n
  induction n with
  | zero => intro z i h; simp at h
  | succ n ih =>
    intro z i h
    simp only [repN]
    have hz : 0 < z.length := by
      rcases Nat.eq_zero_or_pos z.length with h0 | h0
      · rw [h0] at h; simp at h
      · exact h0
    by_cases hi : i < z.length
    · rw [List.getElem?_append_left hi, Nat.mod_eq_of_lt hi]
    · rw [List.getElem?_append_right (by omega), ih _ _ (by rw [Nat.add_mul] at h; omega)]
      congr 1
      rw [← Nat.mod_eq_sub_mod (by omega)]

omit Sg in
theorem rep_eq (n : Nat) (z : Array Value) (hz : 0 < z.size) : ((Array.range (n * z.size)).map fun i => z[i % z.size]!) = ⟨repN n z.toList⟩ := by
  apply array_eq_of_toList
  apply List.ext_getElem?
  intro i
  by_cases hi : i < n * z.size
  · have hm : i % z.size < z.size := Nat.mod_lt _ hz
    show _ = (repN n z.toList)[i]?
    rw [repN_get n z.toList i (by simpa using hi)]
    simp only [Array.length_toList, Array.getElem?_toList]
    rw [Array.getElem?_eq_getElem hm]
    simp [hi, hm]
  · show _ = (repN n z.toList)[i]?
    rw [List.getElem?_eq_none (by simp; omega), List.getElem?_eq_none (by rw [repN_length]; simpa using Nat.le_of_not_lt hi)]

theorem OR_new {ι : Inj} {w : World} {cs : List Value} {c : Array Value} {e : TypeId} (h : LR ι cs c.toList) :
    OR ι (wpush w (.cells c e (0, 0))) ⟨w.heap.size, 0, cs.length, cs.length, none⟩ (.cells cs none false) := by
  have hl := h.length
  refine ⟨c, e, (0, 0), by rw [wpush_get]; simp, rfl, rfl, by simp at hl; simp; omega, ?_, by intro _ off _; simp, fun _ => rfl, by rw [hl]; simp, by intro k hk; cases hk⟩
  have : piece c 0 cs.length = c.toList := by
    unfold piece
    rw [hl, List.drop_zero]
    exact List.take_of_length_le (Nat.le_refl _)
  simpa [this] using h

/-- Something is made: a block more, and a value that names it. -/
def Makes (P : Program) (ι : Inj) (ρ' : Operand → Value) (o : Oper) (ob : AObj) (f : Nat → Value) (w : World) : Prop :=
  ∃ (v' : Value) (ob' : Obj) (ni : NI), (execOp ρ' o).run P w = .ok (.value v') (wpush w ob') ∧ ni.blk = w.heap.size ∧ (∀ off, fzObj (some ob') off = false) ∧
    ∀ nm, ι nm = none → OR (upd ι nm ni) (wpush w ob') ni ob ∧ VR (upd ι nm ni) (f nm) v'

omit Sg in
theorem wf_i64 {n : Int} (h0 : 0 ≤ n) (h : n.toNat ≤ most) : IntKind.i64.wrap n = n := by
  have : n < 9223372036854775808 := by unfold most at h; omega
  unfold IntKind.wrap
  simp [IntKind.bits, IntKind.signed]
  omega

section
variable {E : Env} {P : Program} {ι : Inj} {ρ : Operand → Option Value} {ρ' : Operand → Value} {w : World}

theorem makes_cells {o : Oper} {cs : List Value} {c : Array Value} {e : TypeId} {f : Nat → Value} {v' : Value} (h : LR ι cs c.toList)
    (hr : (execOp ρ' o).run P w = .ok (.value v') (wpush w (.cells c e (0, 0))))
    (hv : ∀ nm ni, ni = (⟨w.heap.size, 0, cs.length, cs.length, none⟩ : NI) → VR (upd ι nm ni) (f nm) v') : Makes P ι ρ' o (.cells cs none false) f w :=
  ⟨v', _, ⟨w.heap.size, 0, cs.length, cs.length, none⟩, hr, rfl, fun _ => by simp [fzObj], fun nm hn => ⟨OR_new (h.mono (Ext.upd _ hn)), hv nm _ rfl⟩⟩

theorem makes_ptr {nm b : Nat} {l : Nat} : VR (upd ι nm ⟨b, 0, l, l, none⟩) (.pointer (some ⟨nm, 0, none⟩)) (.pointer (some ⟨b, 0, none⟩)) := by
  have := VR.ptr (ι := upd ι nm ⟨b, 0, l, l, none⟩) nm 0 _ (upd_same ..)
  simpa using this

theorem makes_slice {nm b l n c : Nat} : VR (upd ι nm ⟨b, 0, l, l, none⟩) (.slice (some ⟨nm, 0, none⟩) n c) (.slice (some ⟨b, 0, none⟩) n c) := by
  have := VR.slice (ι := upd ι nm ⟨b, 0, l, l, none⟩) nm 0 n c c _ (upd_same ..) (.inl rfl) (Nat.le_refl _)
  simpa using this

theorem makeSlice_run (hE : E.Ok P) {o : Oper} {t e : TypeId} {l c : Operand} {ti te : TI} (ho : o.op = .makeSlice t l c) (ht : E.ty.get t = some ti) (hd : ti.und = .slice e) (he : E.ty.get e = some te)
    {k1 k2 : IntKind} {ln cn : Int} (hl : ρ' l = .int k1 ln) (hc : ρ' c = .int k2 cn) (b1 : 0 ≤ ln) (b2 : ln ≤ cn) (b3 : cn.toNat ≤ most) (b4 : cn.toNat * te.bytes ≤ most) (b5 : 0 < te.size) (b6 : sizeIs te.size te.zero = true) :
    (execOp ρ' o).run P w = .ok (.value (.slice (some ⟨w.heap.size, 0, none⟩) ln.toNat cn.toNat)) (wpush w (.cells ⟨repN cn.toNat te.zero⟩ e (0, 0))) := by
  have hT := hE.ty _ _ ht
  have hu := hT.und
  rw [hd] at hu
  have hTe := hE.ty _ _ he
  rw [sizeIs_iff] at b6
  obtain ⟨z, hz, hzc, _⟩ := hTe.run_zero w
  obtain ⟨inf, hinf, _, hby⟩ := hTe.run_info w
  have hzs : z.cells.size = te.size := by rw [← Array.length_toList, hzc]; exact b6
  have wl : IntKind.i64.wrap ln = ln := wf_i64 b1 (by omega)
  have wc : IntKind.i64.wrap cn = cn := wf_i64 (by omega) b3
  have hmost : most = 1099511627776 := rfl
  have hbig : ¬ ((inf.bytes : Int) * cn > 2 ^ 48) := by
    rw [hby]
    have : ((te.bytes : Int) * cn) = ((cn.toNat * te.bytes : Nat) : Int) := by
      rw [Int.natCast_mul, Int.toNat_of_nonneg (by omega), Int.mul_comm]
    rw [this]; omega
  unfold execOp; simp only [ho, hl, hc]
  simp only [Instr.makeSlice, Sem.run_bind, run_underlying hu, Result.andThen_ok, asInt, asIntOf, Sem.run_pure, hinf, wl, wc, hTe.run_size]
  have hno : (decide (cn < 0) || decide ((inf.bytes : Int) * cn > 2 ^ 48) || decide (ln < 0) || decide (ln > cn)) = false := by
    simp only [Bool.or_eq_false_iff, decide_eq_false_iff_not]
    exact ⟨⟨⟨by omega, hbig⟩, by omega⟩, by omega⟩
  rw [if_neg (by rw [hno]; simp)]
  simp only [Sem.run_bind, run_askRoom, hTe.run_size, Result.andThen_ok]
  by_cases h0 : cn.toNat * te.size = 0
  · have hl0 : cn.toNat = 0 := by
      rcases Nat.mul_eq_zero.1 h0 with h | h
      · exact h
      · omega
    simp only [h0, if_true, Sem.run_bind, Sem.run_pure, Result.andThen_ok]
    have : ((Array.range 0).map fun x => (#[] : Array Value)[x % (#[] : Array Value).size]!) = (⟨repN cn.toNat te.zero⟩ : Array Value) := by rw [hl0]; simp [repN]
    rw [this]
    simp only [Sem.run_bind, newRow, run_newObj, Result.andThen_ok, Sem.run_pure]
    rfl
  · simp only [h0, if_false, Sem.run_bind, hz, Sem.run_pure, Result.andThen_ok]
    have : ((Array.range (cn.toNat * te.size)).map fun x => z.cells[x % z.cells.size]!) = (⟨repN cn.toNat te.zero⟩ : Array Value) := by
      rw [← hzs, rep_eq cn.toNat z.cells (by omega), hzc]
    rw [this]
    simp only [Sem.run_bind, newRow, run_newObj, Result.andThen_ok, Sem.run_pure]
    rfl

theorem aalloc_makes (hE : E.Ok P) (hρ : Env' ι ρ ρ') {o : Oper} {ob : AObj} {f : Nat → Value} (h : aalloc E ρ o = some (ob, f)) : Makes P ι ρ' o ob f w := by
  unfold aalloc at h
  cases ho : o.op <;> simp only [ho] at h <;> first | (cases h; done) | skip
  case alloc t =>
    cases ht : E.ty.get t with
    | none => rw [ht] at h; cases h
    | some ti =>
      simp only [ht] at h
      cases h
      have hT := hE.ty _ _ ht
      obtain ⟨z, hz, hzc, _⟩ := hT.run_zero w
      refine makes_cells (c := z.cells) (e := t) (v' := .pointer (some ⟨w.heap.size, 0, none⟩)) ?_ ?_ ?_
      · rw [hzc]; exact .self fun v hv => plainV_VR (hT.plain v hv)
      · unfold execOp; simp only [ho]
        simp only [Instr.alloc, Sem.run_bind, hz, Result.andThen_ok, newVar, newRow, run_newObj, Sem.run_pure]
        rfl
      · rintro nm ni rfl; exact makes_ptr
  case box t x =>
    cases hx : ρ x with
    | none => rw [hx] at h; cases h
    | some v =>
      simp only [hx] at h
      cases h
      refine makes_cells (c := (ρ' x).cells) (e := t) (v' := .pointer (some ⟨w.heap.size, 0, none⟩)) (hρ _ _ hx).cells ?_ ?_
      · unfold execOp; simp only [ho]
        simp only [Instr.box, Sem.run_bind, Result.andThen_ok, newVar, newRow, run_newObj, Sem.run_pure]
        rfl
      · rintro nm ni rfl; exact makes_ptr
  case buildSlice t len parts =>
    cases ht : E.ty.get t with
    | none => rw [ht] at h; cases h
    | some ti => cases hp : evalP ρ parts.toList with
      | none => rw [ht, hp] at h; cases h
      | some vs =>
        rw [ht, hp] at h
        simp only at h
        have hT := hE.ty _ _ ht
        have hu := hT.und
        cases hd : ti.und <;> simp only [hd] at h hu <;> first | (cases h; done) | skip
        rename_i e
        cases he : E.ty.get e with
        | none => rw [he] at h; cases h
        | some te =>
          simp only [he] at h
          have hTe := hE.ty _ _ he
          cases hc : (Nat.blt 0 te.size && Nat.ble (len * te.size) 16777216 && sizeIs te.size te.zero) with
          | false => rw [hc] at h; cases h
          | true =>
            rw [hc] at h
            simp only [cond_true] at h
            simp only [Bool.and_eq_true, sizeIs_iff] at hc
            obtain ⟨⟨hc1, hc2⟩, hc3⟩ := hc
            have hc1 : 0 < te.size := by
              have : Nat.ble 1 te.size = true := hc1
              exact Nat.le_of_ble_eq_true this
            have hc2 : len * te.size ≤ 16777216 := Nat.le_of_ble_eq_true hc2
            cases hf : fillA te.size vs (repN len te.zero) with
            | none => rw [hf] at h; cases h
            | some cs =>
              simp only [hf] at h
              cases h
              obtain ⟨z, hz, hzc, _⟩ := hTe.run_zero w
              have hzs : z.cells.size = te.size := by rw [← Array.length_toList, hzc]; exact hc3
              have hpr := evalP_PR hρ hp
              have hrep : LR ι (repN len te.zero) (⟨repN len te.zero⟩ : Array Value).toList := by
                refine .self fun v hv => plainV_VR ?_
                have : ∀ n, ∀ v ∈ repN n te.zero, v ∈ te.zero := by
                  intro n
                  induction n with
                  | zero => intro v hv; simp [repN] at hv
                  | succ n ih => intro v hv; simp only [repN, List.mem_append] at hv; rcases hv with hv | hv; exact hv; exact ih v hv
                exact hTe.plain v (this _ v hv)
              obtain ⟨c', h1, h2⟩ := fillA_fill hpr hrep hf
              refine makes_cells (c := c') (e := e) (v' := .slice (some ⟨w.heap.size, 0, none⟩) len len) h2 ?_ ?_
              · have hparts : (parts.map fun (i, x) => (i, ρ' x)).toList = parts.toList.map fun (i, x) => (i, ρ' x) := by simp
                unfold execOp; simp only [ho]
                simp only [Instr.buildSlice, Sem.run_bind, run_underlying hu, Result.andThen_ok, hTe.run_size]
                rw [if_neg (by omega)]
                by_cases h0 : len * te.size = 0
                · have hl0 : len = 0 := by
                    rcases Nat.mul_eq_zero.1 h0 with h | h
                    · exact h
                    · omega
                  subst hl0
                  simp only [h0, if_true, Sem.run_bind, Sem.run_pure, Result.andThen_ok, hparts]
                  have : ((Array.range 0).map fun x => (#[] : Array Value)[x % (#[] : Array Value).size]!) = (⟨repN 0 te.zero⟩ : Array Value) := by simp [repN]
                  rw [this, h1]
                  simp only [Sem.run_bind, newRow, run_newObj, Result.andThen_ok, Sem.run_pure]
                  rfl
                · simp only [h0, if_false, Sem.run_bind, hz, Sem.run_pure, Result.andThen_ok, hparts]
                  have : ((Array.range (len * te.size)).map fun x => z.cells[x % z.cells.size]!) = (⟨repN len te.zero⟩ : Array Value) := by
                    rw [← hzs, rep_eq len z.cells (by omega), hzc]
                  rw [this, h1]
                  simp only [Sem.run_bind, newRow, run_newObj, Result.andThen_ok, Sem.run_pure]
                  rfl
              · rintro nm ni rfl; exact makes_slice
  case makeSlice t l c =>
    cases ht : E.ty.get t with
    | none => rw [ht] at h; cases h
    | some ti => cases hl : ρ l with
      | none => rw [ht, hl] at h; cases h
      | some lv => cases hc : ρ c with
        | none => rw [ht, hl, hc] at h; cases lv <;> cases h
        | some cv =>
          rw [ht, hl, hc] at h
          cases lv <;> cases cv <;> first | (cases h; done) | skip
          · rename_i k1 ln k2 cn
            simp only at h
            have hu := (hE.ty _ _ ht).und
            cases hd : ti.und <;> simp only [hd] at h hu <;> first | (cases h; done) | skip
            rename_i e
            cases he : E.ty.get e with
            | none => rw [he] at h; cases h
            | some te =>
              simp only [he] at h
              have hTe := hE.ty _ _ he
              split at h
              · rename_i hb
                cases h
                obtain ⟨b1, b2, b3, b4, b5, b6⟩ := hb
                have hrep : LR ι (repN cn.toNat te.zero) (⟨repN cn.toNat te.zero⟩ : Array Value).toList := by
                  refine .self fun v hv => plainV_VR ?_
                  have : ∀ n, ∀ v ∈ repN n te.zero, v ∈ te.zero := by
                    intro n
                    induction n with
                    | zero => intro v hv; simp [repN] at hv
                    | succ n ih => intro v hv; simp only [repN, List.mem_append] at hv; rcases hv with hv | hv; exact hv; exact ih v hv
                  exact hTe.plain v (this _ v hv)
                refine makes_cells (c := ⟨repN cn.toNat te.zero⟩) (e := e) (v' := .slice (some ⟨w.heap.size, 0, none⟩) ln.toNat cn.toNat) hrep ?_ ?_
                · exact makeSlice_run hE ho ht hd he (int_of hρ hl) (int_of hρ hc) b1 b2 b3 b4 b5 b6
                · rintro nm ni rfl; exact makes_slice
              · cases h
          · rename_i k1 ln m1 k2 cn m2
            simp only at h
            cases hd : ti.und <;> simp only [hd] at h <;> first | (cases h; done) | skip
            rename_i e
            cases he : E.ty.get e with
            | none => rw [he] at h; cases h
            | some te =>
              simp only [he] at h
              cases hck : (Nat.beq ln cn && E.room ln && Nat.ble te.bytes 1000 && Nat.blt 0 te.size && sizeIs te.size te.zero) with
              | false => rw [hck] at h; cases h
              | true =>
                rw [hck] at h; simp only [cond_true] at h; cases h
                simp only [Bool.and_eq_true] at hck
                obtain ⟨⟨⟨⟨c1, c2⟩, c3⟩, c4⟩, c5⟩ := hck
                have e1 := Nat.eq_of_beq_eq_true c1
                subst e1
                obtain ⟨k, m, hs, hm0, hm1⟩ := hE.room _ c2
                have hl' : ρ' l = .int k m := by
                  have := hρ _ _ hl
                  generalize ρ' l = y at this
                  cases this; exact hs
                have hc' : ρ' c = .int k m := by
                  have := hρ _ _ hc
                  generalize ρ' c = y at this
                  cases this; exact hs
                have hb := Nat.le_of_ble_eq_true c3
                have hmul : m.toNat * te.bytes ≤ 5000 * 1000 := Nat.mul_le_mul hm1 hb
                have hmost : most = 1099511627776 := rfl
                have hsz : 0 < te.size := Nat.le_of_ble_eq_true (show Nat.ble (0 + 1) te.size = true from c4)
                refine ⟨_, _, ⟨w.heap.size, 0, 0, (repN m.toNat te.zero).length, none⟩, makeSlice_run hE ho ht hd he hl' hc' hm0 (Int.le_refl _) (by omega) (by omega) hsz c5, rfl, fun _ => by simp [fzObj], fun nm hn => ⟨⟨⟨repN m.toNat te.zero⟩, e, (0, 0), by rw [wpush_get]; simp, rfl, rfl, Nat.zero_le _, ?_, ?_, ?_, rfl, ?_⟩, .any _ _ _ rfl⟩⟩
                · simp only [piece, List.take_zero]; exact .nil
                · intro h; cases h
                · intro h; cases h
                · intro k hk; cases hk
  case makeMap t r =>
    cases ht : E.ty.get t with
    | none => rw [ht] at h; cases h
    | some ti => cases hr : oev ρ r with
      | none => rw [ht, hr] at h; cases h
      | some rv =>
        rw [ht, hr] at h
        simp only at h
        have hT := hE.ty _ _ ht
        have hu := hT.und
        cases hd : ti.und <;> simp only [hd] at h hu <;> first | (cases h; done) | skip
        have hov := oev_OV hρ hr
        have fin : ob = .map [] 0 → f = (fun n => Value.map (some n)) → (execOp ρ' o).run P w = .ok (.value (.map (some w.heap.size))) (wpush w (.map #[] 0)) → Makes P ι ρ' o ob f w := by
          rintro rfl rfl hrun
          refine ⟨_, _, ⟨w.heap.size, 0, 0, 0, none⟩, hrun, rfl, fun _ => rfl, fun nm hn => ⟨⟨#[], by rw [wpush_get]; simp, .nil, ⟨by simp, by simp⟩⟩, ?_⟩⟩
          exact VR.map nm _ (upd_same ..)
        cases rv with
        | none =>
          simp only at h; cases h
          generalize hrr : r.map ρ' = rr at hov
          cases hov
          refine fin rfl rfl ?_
          unfold execOp; simp only [ho, hrr]
          simp only [Instr.makeMap, Sem.run_bind, run_newObj, Result.andThen_ok, Sem.run_pure]
          rfl
        | some v =>
          cases v <;> (try simp only at h) <;> first | (cases h; done) | skip
          cases h
          generalize hrr : r.map ρ' = rr at hov
          cases hov with
          | some _ v' hv =>
            rw [hv.plain_eq.1 _ _ rfl] at hrr
            refine fin rfl rfl ?_
            unfold execOp; simp only [ho, hrr]
            simp only [Instr.makeMap, Sem.run_bind, run_underlying hu, asInt, asIntOf, run_newObj, Result.andThen_ok, Sem.run_pure]
            rfl
  case makeChan t x =>
    (try simp only at h)
    cases ht : E.ty.get t with
    | none => rw [ht] at h; cases h
    | some ti => cases hx : ρ x with
      | none => rw [ht, hx] at h; cases h
      | some xv =>
        rw [ht, hx] at h
        cases xv <;> first | (cases h; done) | skip
        rename_i k n
        (try simp only at h)
        have hT := hE.ty _ _ ht
        have hu := hT.und
        cases hd : ti.und <;> simp only [hd] at h hu <;> first | (cases h; done) | skip
        rename_i dir e
        cases he : E.ty.get e with
        | none => rw [he] at h; cases h
        | some te =>
          simp only [he] at h
          have hTe := hE.ty _ _ he
          obtain ⟨inf, hinf, _, hby⟩ := hTe.run_info w
          split at h
          · rename_i hb
            cases h
            have hmost : most = 1099511627776 := rfl
            have hbig : ¬ ((inf.bytes : Int) * n > 2 ^ 48 - 112) := by
              rw [hby]
              have : ((te.bytes : Int) * n) = ((n.toNat * te.bytes : Nat) : Int) := by
                rw [Int.natCast_mul, Int.toNat_of_nonneg (by omega), Int.mul_comm]
              rw [this]; omega
            have hmx : IntKind.i64.max = 9223372036854775807 := by decide
            refine ⟨.chan (some w.heap.size), .chan n.toNat #[] false 0 0 false, ⟨w.heap.size, 0, 0, 0, none⟩, ?_, rfl, fun _ => rfl, fun nm hn => ⟨⟨#[], 0, 0, by rw [wpush_get]; simp, .nil⟩, VR.chan nm _ (upd_same ..)⟩⟩
            unfold execOp; simp only [ho, int_of hρ hx]
            simp only [Instr.makeChan, Sem.run_bind, run_underlying hu, asInt, asIntOf, hinf, Result.andThen_ok, Sem.run_pure]
            rw [if_neg (by rw [hmx]; rintro (h1 | h2 | h3) <;> first | omega | exact hbig h3)]
            simp only [Sem.run_bind, run_newObj, Result.andThen_ok, Sem.run_pure]
            rfl
          · cases h

end
end Go.Sh
