/-
  A shadow interpreter for the model's operations: maps that are written, iterators. (No program in it.)
-/
import Derived.Test.YtnhofgbjmofcnaaGreatRShL
namespace Go.Sh
open Go

variable [Sg : Sig]

omit Sg in
theorem bytes_self (b : ByteArray) : (b == b) = true := by rw [beqBytes]; simp

omit Sg in
theorem keyPlain_same : ∀ (n : Nat) {v : Value}, keyPlain n v = true → ∀ d, n ≤ d → Instr.sameBits d v v = true := by
  intro n
  induction n with
  | zero =>
    intro v h d _
    cases v <;> simp [keyPlain] at h <;> cases d <;> simp [Instr.sameBits, bytes_self]
  | succ n ih =>
    intro v h d hd
    obtain ⟨d, rfl⟩ : ∃ k, d = k + 1 := ⟨d - 1, by omega⟩
    cases v <;> simp [keyPlain] at h <;> simp [Instr.sameBits, bytes_self]
    rename_i cs
    rw [allV_mem] at h
    intro a b hab
    have := List.of_mem_zip hab
    have he : a = b := by
      have key : ∀ (l : List Value) (p : Value × Value), p ∈ l.zip l → p.1 = p.2 := by
        intro l
        induction l with
        | nil => intro p hp; simp at hp
        | cons x l ih => intro p hp; simp at hp; rcases hp with rfl | hp; rfl; exact ih p hp
      exact key _ _ hab
    subst he
    exact ih (h a this.1) d (by omega)

theorem keyPlain_VR {ι : Inj} : ∀ (n : Nat) {v v' : Value}, keyPlain n v = true → VR ι v v' → v' = v := by
  intro n
  induction n with
  | zero =>
    intro v v' h hv
    cases v <;> simp [keyPlain] at h <;> cases hv <;> rfl
  | succ n ih =>
    intro v v' h hv
    cases v <;> simp [keyPlain] at h
    · cases hv; rfl
    · cases hv; rfl
    · cases hv; rfl
    · rw [allV_mem] at h
      cases hv with
      | agg xs ys hl =>
        have : ys = xs := by
          simp only at h
          induction hl using LR.rec (motive_1 := fun _ _ _ => True) with
          | nil => rfl
          | cons x y xs ys hx hs _ ihs => rw [ih (h x (by simp)) hx, ihs (fun v hv => h v (by simp [hv]))]
          | _ => trivial
        rw [this]

theorem ER.append {ι : Inj} {es fs gs hs : List MapEntry} (h : ER ι es fs) (h' : ER ι gs hs) : ER ι (es ++ gs) (fs ++ hs) := by
  induction h with
  | nil => exact h'
  | cons e f es fs hk hv hb _ ih => exact .cons e f _ _ hk hv hb ih

theorem ER.setI {ι : Inj} {es fs : List MapEntry} (h : ER ι es fs) {v v' : Value} (hv : VR ι v v') : ∀ (i : Nat) {k : Value}, (∀ f, fs[i]? = some f → f.key = k) →
    ER ι (Sh.setI v es i) (fs.modify i fun e => { e with key := k, val := v' }) := by
  induction h with
  | nil => intro i k _; simp [Sh.setI, List.modify]; cases i <;> exact .nil
  | cons e f es fs hk hv1 hb hs ih =>
    intro i k hkey
    cases i with
    | zero =>
      have := hkey f (by simp)
      simp only [Sh.setI, List.modify_zero_cons]
      exact .cons _ _ _ _ (by simpa [← this] using hk) hv hb hs
    | succ i =>
      simp only [Sh.setI, List.modify_succ_cons]
      exact .cons _ _ _ _ hk hv1 hb (ih i fun f hf => hkey f (by simpa using hf))

theorem ER.delI {ι : Inj} {es fs : List MapEntry} (h : ER ι es fs) : ∀ (i : Nat), ER ι (Sh.delI es i) (fs.eraseIdx i) := by
  induction h with
  | nil => intro i; simp [Sh.delI]; exact .nil
  | cons e f es fs hk hv hb hs ih =>
    intro i
    cases i with
    | zero => simpa [Sh.delI] using hs
    | succ i => simpa [Sh.delI] using ER.cons _ _ _ _ hk hv hb (ih i)

section
variable {E : Env} {P : Program} {ι : Inj} {ρ : Operand → Option Value} {ρ' : Operand → Value} {s s' : St} {w : World}

omit Sg in
theorem run_setObj {b : Nat} {o1 o2 : Obj} (h : w.heap[b]? = some o1) (hc : ∀ c e f, o1 ≠ .cells c e f) : (setObj b o2).run P w = .ok () (wput w b o2) := by
  cases o1 <;> simp [setObj, Sem.run, h, wput]
  rename_i c e f
  exact absurd rfl (hc c e f)

theorem SR.mapSet (hs : SR ι s w) {n : Nat} {es es1 : List MapEntry} {clock clock1 : Nat} {es1' : Array MapEntry} {ni : NI} (hn : s.heap.get n = some (.map es clock)) (hni : ι n = some ni) (he : ER ι es1 es1'.toList) :
    Post ι s w ι { s with heap := s.heap.set n (.map es1 clock1) } (wput w ni.blk (.map es1' clock1)) := by
  obtain ⟨es', h1, h2⟩ := hs.map hn hni
  have hb : ni.blk < w.heap.size := (Array.getElem?_eq_some_iff.1 h1).1
  exact Post.write hs hn rfl hni rfl ⟨es1', by rw [wput_get _ _ _ _ hb]; simp, he⟩ (wput_frozen h1 fun _ => rfl)

theorem amapset_run (hE : E.Ok P) (hs : SR ι s w) {t : Nat} {m k v m' k' v' : Value} (h : amapset E s t m k v = some s') (hm : VR ι m m') (hk : VR ι k k') (hv : VR ι v v') :
    ∃ w', (Instr.mapUpdate t m' k' v').run P w = .ok () w' ∧ Post ι s w ι s' w' := by
  unfold amapset at h
  cases ht : E.ty.get t with
  | none => rw [ht] at h; cases h
  | some ti =>
    simp only [ht] at h
    have hu := (hE.ty _ _ ht).und
    split at h
    · rename_i kt et r hd; rw [hd] at hu
      obtain ⟨ni, hni, rfl⟩ := hm.map_some
      cases hg : s.heap.get r with
      | none => rw [hg] at h; cases h
      | some ob =>
        rw [hg] at h
        cases ob <;> (try simp only at h) <;> first | (cases h; done) | skip
        rename_i es clock
        obtain ⟨es', hw, hes⟩ := hs.map hg hni
        cases hok : keyOk E 6 kt k with
        | false => rw [hok] at h; cases h
        | true =>
          simp only [hok, cond_true] at h
          have hck := keyOk_run hE (w := w) false 6 hok hk 10000 (by omega)
          have hnc : ∀ c e f, (Obj.map es' clock) ≠ .cells c e f := by intros; simp
          cases hf : findI E s kt k es 0 with
          | none => rw [hf] at h; cases h
          | some ro =>
            simp only [hf] at h
            obtain ⟨r', hr1, hr2⟩ := findKey_run hE hs hk hok hes hf
            rcases hr2 with ⟨rfl, rfl⟩ | ⟨j, f, rfl, hf2, rfl⟩
            · simp only at h; cases h
              refine ⟨_, ?_, hs.mapSet hg hni (es1' := es'.push { key := k', val := v', born := clock }) (by simpa using hes.append (ER.cons { key := k, val := v, born := clock } { key := k', val := v', born := clock } [] [] hk hv rfl .nil))⟩
              simp only [Instr.mapUpdate, Sem.run_bind, run_underlying hu, Result.andThen_ok, run_getMap hw, hck, hr1]
              exact run_setObj hw hnc
            · simp only [Nat.zero_add] at h
              cases hej : es[j]? with
              | none => rw [hej] at h; cases h
              | some e =>
                simp only [hej] at h
                cases hsm : (keyPlain 6 k && sameV e.key k) with
                | false => rw [hsm] at h; cases h
                | true =>
                  rw [hsm] at h
                  simp only [cond_true] at h
                  cases h
                  simp only [Bool.and_eq_true] at hsm
                  obtain ⟨f', hf3, hkey, hval, hborn⟩ := hes.get hej
                  rw [hf2] at hf3; cases hf3
                  have ek : e.key = k := sameV_eq hsm.2
                  have ek' : k' = k := keyPlain_VR 6 hsm.1 hk
                  have ef : f.key = k := keyPlain_VR 6 hsm.1 (ek ▸ hkey)
                  have hft : es'[j]? = some f := by simpa using hf2
                  refine ⟨_, ?_, hs.mapSet hg hni (es1' := es'.modify j fun e => { e with key := k', val := v' }) ?_⟩
                  · simp only [Instr.mapUpdate, Sem.run_bind, run_underlying hu, Result.andThen_ok, run_getMap hw, hck, hr1]
                    have : (Instr.keyThatStays (((es'[0 + j]?).map (·.key)).getD k') k').run P w = .ok k' w := by
                      rw [Nat.zero_add, hft]
                      simp only [Option.map_some, Option.getD_some, ef, ek', Instr.keyThatStays, keyPlain_same 6 hsm.1 10000 (by omega)]
                      rfl
                    rw [this]
                    simp only [Result.andThen_ok, Nat.zero_add]
                    exact run_setObj hw hnc
                  · have := hes.setI hv j (k := k') (fun f0 hf0 => by rw [hf2] at hf0; cases hf0; rw [ef, ek'])
                    simpa using this
    · cases h

theorem does_mapUpdate (hE : E.Ok P) (hρ : Env' ι ρ ρ') (hs : SR ι s w) {o : Oper} {t : TypeId} {m k u : Operand} {v : Value} (ho : o.op = .mapUpdate t m k u ∨ o.op = .insert t m k u) (h : achain E ρ o s = some (v, s')) :
    Does P ι s ρ' o v s' w := by
  have h' : (match ρ m, ρ k, ρ u with
    | some vm, some vk, some vv => match amapset E s t vm vk vv with
      | some s' => some (undef, s')
      | none => none
    | _, _, _ => none) = some (v, s') := by
    unfold achain at h
    rcases ho with ho | ho <;> (simp only [ho] at h; exact h)
  cases hm : ρ m with
  | none => rw [hm] at h'; cases h'
  | some vm => cases hk : ρ k with
    | none => rw [hm, hk] at h'; cases h'
    | some vk => cases hu : ρ u with
      | none => rw [hm, hk, hu] at h'; cases h'
      | some vv =>
        rw [hm, hk, hu] at h'
        simp only at h'
        cases ha : amapset E s t vm vk vv with
        | none => rw [ha] at h'; cases h'
        | some s1 =>
          rw [ha] at h'
          cases h'
          obtain ⟨w', h1, h2⟩ := amapset_run (P := P) hE hs ha (hρ _ _ hm) (hρ _ _ hk) (hρ _ _ hu)
          refine ⟨.skip, undef, w', ι, ?_, .inr ⟨rfl, rfl⟩, undef_VR ι, h2⟩
          unfold execOp
          rcases ho with ho | ho <;> (simp only [ho]; simp [h1])

theorem does_range (hE : E.Ok P) (hρ : Env' ι ρ ρ') (hs : SR ι s w) {o : Oper} {t : TypeId} {x : Operand} {v : Value} (ho : o.op = .range t x) (h : achain E ρ o s = some (v, s')) :
    Does P ι s ρ' o v s' w := by
  unfold achain at h
  simp only [ho] at h
  cases ht : E.ty.get t with
  | none => rw [ht] at h; cases h
  | some ti => cases hx : ρ x with
    | none => rw [ht, hx] at h; cases h
    | some a =>
      simp only [ht, hx] at h
      have hu := (hE.ty _ _ ht).und
      have va := hρ _ _ hx
      have hnext : ι s.next = none := by
        cases hg : ι s.next with
        | none => rfl
        | some mi => have := hs.fresh _ _ hg; omega
      split at h
      · rename_i hd; rw [hd] at hu; cases h
        generalize hy : ρ' x = y at va
        cases va
        refine ⟨_, .pointer (some ⟨w.heap.size, 0, none⟩), wpush w (.mapIter none 0 #[] 0), upd ι s.next ⟨w.heap.size, 0, 0, 0, none⟩, ?_, .inl rfl, ?_, ?_⟩
        · unfold execOp; simp only [ho, hy]
          simp only [Instr.range, Sem.run_bind, run_underlying hu, Sem.run_pure, Result.andThen_ok, run_newObj]
          rfl
        · simpa using VR.ptr (ι := upd ι s.next ⟨w.heap.size, 0, 0, 0, none⟩) s.next 0 _ (upd_same ..)
        · exact Post.push hs rfl ⟨none, by rw [wpush_get]; simp, .none, rfl⟩ (fun _ => rfl)
      · rename_i m hd; rw [hd] at hu
        cases hg : s.heap.get m with
        | none => rw [hg] at h; cases h
        | some ob =>
          rw [hg] at h
          cases ob <;> (try simp only at h) <;> first | (cases h; done) | skip
          rename_i es clock
          cases h
          obtain ⟨mi, hmi, hy⟩ := va.map_some
          obtain ⟨es', hw, hes⟩ := hs.map hg hmi
          refine ⟨_, .pointer (some ⟨w.heap.size, 0, none⟩), wpush w (.mapIter (some mi.blk) clock #[] clock), upd ι s.next ⟨w.heap.size, 0, 0, 0, none⟩, ?_, .inl rfl, ?_, ?_⟩
          · unfold execOp; simp only [ho, hy]
            simp only [Instr.range, Sem.run_bind, run_underlying hu, Sem.run_pure, Result.andThen_ok, run_newObj, run_getMap hw]
            rfl
          · simpa using VR.ptr (ι := upd ι s.next ⟨w.heap.size, 0, 0, 0, none⟩) s.next 0 _ (upd_same ..)
          · refine Post.push hs rfl ⟨some mi.blk, by rw [wpush_get]; simp, .some m mi ?_, rfl⟩ (fun _ => rfl)
            exact Ext.upd _ hnext m mi hmi
      · cases h

theorem ER.filter {es fs : List MapEntry} (h : ER ι es fs) (p : Nat → Bool) : ER ι (es.filter fun e => p e.born) (fs.filter fun e => p e.born) := by
  induction h with
  | nil => exact .nil
  | cons e f es fs hk hv hb hs ih =>
    simp only [List.filter_cons, hb]
    split
    · exact .cons _ _ _ _ hk hv hb ih
    · exact ih

theorem ER.all {es fs : List MapEntry} (h : ER ι es fs) (p : Nat → Bool) : (es.all fun e => p e.born) = (fs.all fun e => p e.born) := by
  induction h with
  | nil => rfl
  | cons e f es fs hk hv hb hs ih => simp only [List.all_cons, hb, ih]

theorem does_next (hρ : Env' ι ρ ρ') (hs : SR ι s w) {o : Oper} {x : Operand} {v : Value} (ho : o.op = .next x false) (h : achain E ρ o s = some (v, s')) :
    Does P ι s ρ' o v s' w := by
  unfold achain at h
  simp only [ho] at h
  cases hx : ρ x with
  | none => rw [hx] at h; cases h
  | some a =>
    rw [hx] at h
    cases a <;> (try simp only at h) <;> first | (cases h; done) | skip
    rename_i a
    cases a with
    | none => cases h
    | some a =>
      simp only at h
      obtain ⟨n, off, ni, rfl, hni, hv'⟩ := (hρ _ _ hx).ptr_some
      cases ho0 : Nat.beq off 0 with
      | false => simp only [ho0, cond_false] at h; cases h
      | true =>
        simp only [ho0, cond_true] at h
        simp only [nat_beq_eq, decide_eq_true_eq] at ho0
        subst ho0
        cases hg : s.heap.get n with
        | none => rw [hg] at h; cases h
        | some ob =>
          rw [hg] at h
          cases ob <;> (try simp only at h) <;> first | (cases h; done) | skip
          rename_i m since seen last
          obtain ⟨mi, h1, h2⟩ := hs.obj n _ hg
          rw [hni] at h1; cases h1
          obtain ⟨m', hw, hm, hd0⟩ := h2
          have hgi : (getObj ni.blk).run P w = .ok (.mapIter m' since ⟨seen⟩ last) w := by simp [getObj, Sem.run, hw]
          have e0 : ni.d + 0 = 0 := by omega
          cases hm with
          | none =>
            simp only at h; cases h
            refine ⟨_, .tuple #[.bool false], w, ι, ?_, .inl rfl, .tuple _ _ (.cons _ _ _ _ (.bool _) .nil), Post.refl hs⟩
            unfold execOp; simp only [ho, hv', e0]
            simp [Instr.next, hgi]
          | some mm mmi hmi =>
            simp only at h
            cases hgm : s.heap.get mm with
            | none => rw [hgm] at h; cases h
            | some om =>
              rw [hgm] at h
              cases om <;> (try simp only at h) <;> first | (cases h; done) | skip
              rename_i es clock
              obtain ⟨es', hwm, hes⟩ := hs.map hgm hmi
              cases hbad : (!seen.isEmpty && !es.isEmpty && es.all (fun e => Nat.ble last e.born)) with
              | true => rw [hbad] at h; cases h
              | false =>
                simp only [hbad, cond_false] at h
                have hbad' : (!(⟨seen⟩ : Array Nat).isEmpty && !es'.isEmpty && es'.all (fun e => decide (e.born ≥ last))) = false := by
                  have h1 : es'.isEmpty = es.isEmpty := by
                    have := hes.length
                    cases es with
                    | nil =>
                      have : es' = #[] := Array.eq_empty_of_size_eq_zero (by simpa using this.symm)
                      simp [this]
                    | cons =>
                      cases hh : es'.isEmpty with
                      | false => rfl
                      | true =>
                        simp at hh
                        subst hh
                        simp at this
                  have h2 : (es'.all fun e => decide (e.born ≥ last)) = (es.all fun e => Nat.ble last e.born) := by
                    have := hes.all (fun b => Nat.ble last b)
                    rw [this, ← Array.all_toList]
                    congr 1
                    funext e
                    cases hb : Nat.ble last e.born
                    · simp; exact Nat.lt_of_not_le fun hle => by rw [Nat.ble_eq_true_of_le hle] at hb; cases hb
                    · simp; exact Nat.le_of_ble_eq_true hb
                  rw [h1, h2]
                  simpa using hbad
                have hleft := hes.filter (fun b => !seen.contains b)
                have hl' : (es'.filter fun e => !(⟨seen⟩ : Array Nat).contains e.born).toList = es'.toList.filter fun e => !seen.contains e.born := by simp
                cases hf : es.filter (fun e => !seen.contains e.born) with
                | nil =>
                  rw [hf] at h hleft
                  simp only at h; cases h
                  generalize hfl : es'.toList.filter (fun e => !seen.contains e.born) = fl at hleft
                  cases hleft
                  rw [hfl] at hl'
                  have hemp : (es'.filter fun e => !(⟨seen⟩ : Array Nat).contains e.born) = #[] := Array.ext' (by simpa using hl')
                  refine ⟨_, .tuple #[.bool false], w, ι, ?_, .inl rfl, .tuple _ _ (.cons _ _ _ _ (.bool _) .nil), Post.refl hs⟩
                  unfold execOp; simp only [ho, hv', e0]
                  simp only [Instr.next, Sem.run_bind, hgi, Result.andThen_ok, run_getMap hwm]
                  rw [if_neg (by rw [hbad']; simp), hemp]
                  simp [Question.forced]
                | cons e rest =>
                  cases rest with
                  | cons _ _ => rw [hf] at h; cases h
                  | nil =>
                    rw [hf] at h hleft
                    simp only at h
                    cases hbl : Nat.blt e.born since with
                    | false => rw [hbl] at h; cases h
                    | true =>
                      simp only [hbl, cond_true] at h
                      cases h
                      generalize hfl : es'.toList.filter (fun e => !seen.contains e.born) = fl at hleft
                      cases hleft with
                      | cons _ f _ fs hk hvv hb hs0 =>
                        cases hs0
                        rw [hfl] at hl'
                        have hone : (es'.filter fun e => !(⟨seen⟩ : Array Nat).contains e.born) = #[f] := Array.ext' (by simpa using hl')
                        have hlt : f.born < since := by
                          rw [← hb]
                          have : Nat.ble (e.born + 1) since = true := hbl
                          exact Nat.le_of_ble_eq_true this
                        have hbk : ni.blk < w.heap.size := (Array.getElem?_eq_some_iff.1 hw).1
                        refine ⟨_, .tuple #[.bool true, f.key, f.val], wput w ni.blk (.mapIter (some mmi.blk) since ((⟨seen⟩ : Array Nat).push f.born) clock), ι, ?_, .inl rfl,
                          .tuple _ _ (.cons _ _ _ _ (.bool _) (.cons _ _ _ _ hk (.cons _ _ _ _ hvv .nil))), ?_⟩
                        · unfold execOp; simp only [ho, hv', e0]
                          simp only [Instr.next, Sem.run_bind, hgi, Result.andThen_ok, run_getMap hwm]
                          rw [if_neg (by rw [hbad']; simp), hone]
                          have hset : ∀ o2, (setObj ni.blk o2).run P w = .ok () (wput w ni.blk o2) := fun o2 => run_setObj hw (by intros; simp)
                          simp [Question.forced, hlt, hset]
                        · refine Post.write hs hg rfl hni rfl ⟨some mmi.blk, by rw [wput_get _ _ _ _ hbk]; simp [hb], .some mm mmi hmi, hd0⟩ (wput_frozen hw fun _ => rfl)

end
end Go.Sh
