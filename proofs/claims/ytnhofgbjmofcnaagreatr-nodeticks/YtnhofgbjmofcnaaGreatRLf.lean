/-
  A shadow interpreter for the model's operations: every operation that writes is met. (No program in it.) A shadow interpreter for the model's operations: acts, and one operation. (No program in it.) A shadow interpreter for the model's operations: regions in any order. (No program in it.) A shadow interpreter for the model's operations: a region in any order. (No program in it.) A shadow interpreter for the model's operations: a region's steps. (No program in it.)
-/
import Derived.Test.YtnhofgbjmofcnaaGreatRLe

namespace Go.Sh
open Go

variable [Sg : Sig]

section
variable {E : Env} {P : Program} {ι : Inj} {ρ : Operand → Option Value} {ρ' : Operand → Value} {s s' : St} {w : World}

omit Sg in
theorem firstN_zero {size : Nat} {x : Value} {r : List Value} (h : firstN s size 0 x = some r) : r = [] := by
  cases x <;> simp only [firstN] at h <;> first | (cases h; done) | skip
  · simp at h; exact h
  · rename_i a l c
    cases a with
    | none => simp only [firstN] at h; cases h; rfl
    | some a =>
      simp only [firstN, Nat.zero_mul, takeN] at h
      cases hg : s.heap.get a.block with
      | none => rw [hg] at h; cases h
      | some ob =>
        rw [hg] at h
        cases ob <;> (try simp only at h) <;> first | (cases h; done) | skip
        cases hq : a.spot.isSome with
        | true => rw [hq] at h; cases h
        | false => rw [hq] at h; simp only [cond_false] at h; cases h; rfl

theorem does_append (hE : E.Ok P) (hρ : Env' ι ρ ρ') (hs : SR ι s w) {o : Oper} {c : Call} {vs : List Value} {v : Value} (ho : o.op = .call c) (hcc : c.callee = .builtin .append) (hev : evalL ρ c.args.toList = some vs)
    (h : aappend E s c.argTypes.toList vs = some (v, s')) : Does P ι s ρ' o v s' w := by
  unfold aappend at h
  split at h
  case h_2 => cases h
  case h_1 st xt rst base sLen sCap x hat =>
  have hl := evalL_LR hρ hev
  generalize hg0 : c.args.toList.map ρ' = ws at hl
  cases hl with
  | cons _ y0 _ ys hy0 hys =>
  cases hys with
  | cons _ y1 _ ys1 hy1 hys1 =>
  cases hys1
  have hargs : c.args.map ρ' = ⟨[y0, y1]⟩ := by apply array_eq_of_toList; simpa using hg0
  cases ht : E.ty.get st with
  | none => simp only [ht] at h; cases h
  | some ti => cases htx : E.ty.get xt with
    | none => simp only [ht, htx] at h; cases h
    | some tx =>
      simp only [ht, htx] at h
      cases hxt : isNum tx.und with
      | true =>
        rw [hxt] at h
        simp only [cond_true] at h
        obtain ⟨xk, hxk⟩ : ∃ k, tx.und = .int k := by
          revert hxt
          cases tx.und <;> simp [isNum]
        unfold aappendZ at h
        split at h
        case h_2 => cases h
        case h_1 e j l hd =>
        cases he : E.ty.get e with
        | none => rw [he] at h; cases h
        | some te =>
          simp only [he] at h
          cases hfo : firstN s te.size sLen (.slice base sLen sCap) with
          | none => rw [hfo] at h; cases h
          | some old =>
            simp only [hfo] at h
            cases hck : (decide (0 ≤ l) && Nat.blt sCap (sLen + l.toNat) && Nat.blt 0 te.size && Nat.ble ((sLen + l.toNat) * te.bytes) most && Nat.ble (sLen + l.toNat) most && sizeIs te.size te.zero && allV isCell te.zero && allV isCell old && Nat.beq old.length (sLen * te.size)) with
            | false => rw [hck] at h; cases h
            | true =>
              rw [hck] at h
              simp only [cond_true] at h
              simp only [Bool.and_eq_true, nat_beq_eq, decide_eq_true_eq, sizeIs_iff] at hck
              obtain ⟨⟨⟨⟨⟨⟨⟨⟨k1, k2⟩, k3⟩, k4⟩, k5⟩, k6⟩, k7⟩, k8⟩, k9⟩ := hck
              have k2 := blt_lt k2
              have k3 := blt_lt k3
              have k4 := Nat.le_of_ble_eq_true k4
              have k5 := Nat.le_of_ble_eq_true k5
              cases base with
              | none => simp only at h; cases h
              | some a =>
                simp only at h
                cases hg : s.heap.get a.block with
                | none => rw [hg] at h; cases h
                | some ob =>
                  rw [hg] at h
                  cases ob <;> (try simp only at h) <;> first | (cases h; done) | skip
                  rename_i cs esz ro
                  cases esz with
                  | some k => simp only at h; cases h
                  | none =>
                    simp only at h; cases h
                    cases hy1
                    have hs1 : SR ι s { w with drawn := w.drawn + 1 } := hs.of_heap rfl
                    obtain ⟨old', hol, hor⟩ := firstN_run hs1 hfo hy0 rfl (Nat.le_refl sLen)
                    have hTe := hE.ty _ _ he
                    have hc0 : c.argTypes[0]? = some st := by
                      have h0 : c.argTypes = ⟨c.argTypes.toList⟩ := rfl
                      rw [h0, hat]; rfl
                    have hc1 : c.argTypes[1]? = some xt := by
                      have h0 : c.argTypes = ⟨c.argTypes.toList⟩ := rfl
                      rw [h0, hat]; rfl
                    have hux : P.underlying xt = some (.int xk) := by rw [(hE.ty _ _ htx).und, hxk]
                    have exactCap : ∃ base' sCap', y0 = .slice base' sLen sCap' ∧ sCap' < sLen + l.toNat := by
                      rcases hy0.slice_some with ⟨nm, off, ni, cap', rfl, hni, hy, hco, hcc'⟩ | ⟨a', e1, e2, hy⟩
                      · have hes : ni.esz = none := by obtain ⟨_, _, _, _, _, h3, _⟩ := hs.cells hg hni; exact h3
                        refine ⟨_, _, hy, ?_⟩
                        rcases hco with rfl | ⟨k, _, hk, _⟩
                        · exact k2
                        · rw [hes] at hk; cases hk
                      · exact ⟨_, 0, by rw [hy, e1], by omega⟩
                    obtain ⟨base', sCap', rfl, hlt⟩ := exactCap
                    obtain ⟨newCap, rest', cc, g1, g2, gz, g3, g4⟩ := append_zeros (j := j) (t := default) hc0 hc1 (hE.ty _ _ ht).und hd hux hTe k1 hlt k4 k5 k3 k6 (hor P)
                    have hzr : LR ι (repN l.toNat te.zero) (repN l.toNat te.zero) := .self fun v hv => plainV_VR (hTe.plain v (repN_mem hv))
                    have hrl : (repN l.toNat te.zero).length = l.toNat * te.size := by rw [repN_length, k6]
                    have hcell : ∀ v ∈ cc.toList, isCell v = true := by
                      intro v hv
                      rw [g3] at hv
                      rcases List.mem_append.1 hv with hv | hv
                      · rcases List.mem_append.1 hv with hv | hv
                        · exact hol.isCell k8 v hv
                        · exact allV_mem.1 k7 v (repN_mem hv)
                      · exact allV_mem.1 k7 v (gz v hv)
                    obtain ⟨ι', g5, g6⟩ := grown_post (e := e) (s0 := s) hs (fun _ _ h => h) rfl hol hzr k3 (by rw [List.length_append, k9, hrl, Nat.add_mul]) g3 g2 g1 hcell
                    exact builtin_does ho hcc (fun _ _ _ => rfl) (fun t => by rw [hargs]; exact g4) g5 g6
      | false =>
        rw [hxt] at h
        simp only [cond_false] at h
        cases hd : ti.und <;> simp only [hd] at h <;> first | (cases h; done) | skip
        rename_i e
        cases he : E.ty.get e with
        | none => simp only [he] at h; cases h
        | some te => cases hlx : lenOf x with
          | none => simp only [he, hlx] at h; cases h
          | some n =>
            simp only [he, hlx] at h
            have hTe := hE.ty _ _ he
            have hc0 : c.argTypes[0]? = some st := by
              have h0 : c.argTypes = ⟨c.argTypes.toList⟩ := rfl
              rw [h0, hat]; rfl
            have hc1 : c.argTypes[1]? = some xt := by
              have h0 : c.argTypes = ⟨c.argTypes.toList⟩ := rfl
              rw [h0, hat]; rfl
            have hnk : ∀ k, tx.und ≠ .int k := by
              intro k hk; rw [hk] at hxt; simp [isNum] at hxt
            have hT : AppTy P c.argTypes st xt e ti tx te := ⟨hc0, hc1, (hE.ty _ _ ht).und, (hE.ty _ _ htx).und, hd, hnk, hTe⟩
            cases hfn : firstN s te.size n x with
            | none => rw [hfn] at h; cases h
            | some new =>
              simp only [hfn] at h
              obtain ⟨new', hnl, hnr⟩ := firstN_run hs hfn hy1 hlx (Nat.le_refl n)
              have hlen := lenOf_run (P := P) (w := w) hlx hy1
              have mk : ∀ {v' w' ι'}, (∀ t, (Builtin.append_ c.argTypes t ⟨[y0, y1]⟩).run P w = .ok v' w') → VR ι' v v' → Post ι s w ι' s' w' → Does P ι s ρ' o v s' w := by
                intro v' w' ι' h1 h2 h3
                exact builtin_does ho hcc (fun _ _ _ => rfl) (fun t => by rw [hargs]; exact h1 t) h2 h3
              cases hle : Nat.ble (sLen + n) sCap with
              | true =>
                simp only [hle, cond_true] at h
                have hle' : sLen + n ≤ sCap := Nat.le_of_ble_eq_true hle
                cases base with
                | none =>
                  simp only at h
                  cases new with
                  | cons _ _ => simp only at h; cases h
                  | nil =>
                    simp only at h; cases h
                    cases hy0
                    exact mk (fun t => append_in hT hle' hlen (hnr P) (.inl ⟨rfl, rfl⟩)) (.snil _ _) (Post.refl hs)
                | some a =>
                  simp only at h
                  cases new with
                  | nil =>
                    simp only at h; cases h
                    cases hnl
                    rcases hy0.slice_some with ⟨nm, off, ni, cap', rfl, hni, rfl, hco, hcc'⟩ | ⟨a', rfl, rfl, rfl⟩
                    · exact mk (fun t => append_in hT (by omega) hlen (hnr P) (.inr ⟨_, rfl, by simp [storeCells]⟩)) (.slice nm off _ _ _ ni hni hco hcc') (Post.refl hs)
                    · have e0 : 0 + n = 0 := by omega
                      have := fun t => append_in (w' := w) (t := t) hT (by omega) hlen (hnr P) (.inr ⟨a', rfl, by simp [storeCells]⟩) (sLen := 0) (sCap' := 0)
                      rw [e0] at this
                      refine mk this ?_ (Post.refl hs)
                      rw [e0]; exact .szero _ _
                  | cons u us =>
                    simp only at h
                    cases hw : writable s a.block with
                    | none => rw [hw] at h; cases h
                    | some ce =>
                      obtain ⟨cs, esz⟩ := ce
                      simp only [hw] at h
                      cases hcl : (allV isCell (u :: us) && a.spot.isNone) with
                      | false => rw [hcl] at h; cases h
                      | true =>
                        simp only [hcl, cond_true] at h
                        simp only [Bool.and_eq_true] at hcl
                        cases hset : setN cs (a.off + sLen * te.size) (u :: us) with
                        | none => rw [hset] at h; cases h
                        | some c1 =>
                          simp only [hset] at h
                          cases h
                          rcases hy0.slice_some with ⟨nm, off, ni, cap', rfl, hni, rfl, hco, hcc'⟩ | ⟨a', rfl, rfl, rfl⟩
                          · obtain ⟨w', hrun, hpost⟩ := hs.write (writable_eq hw) hni hset hnl hcl.1
                            exact mk (fun t => append_in hT (by omega) hlen (hnr P) (.inr ⟨_, rfl, by rw [add_spot, Nat.add_assoc]; exact hrun P⟩)) (.slice nm off _ _ _ ni hni hco hcc') hpost
                          · exfalso
                            obtain rfl : n = 0 := by omega
                            have := firstN_zero hfn
                            cases this
              | false =>
                simp only [hle, cond_false] at h
                have hgt : sCap < sLen + n := by
                  apply Nat.lt_of_not_le; intro hh; rw [Nat.ble_eq_true_of_le hh] at hle; cases hle
                cases hfo : firstN s te.size sLen (.slice base sLen sCap) with
                | none => rw [hfo] at h; cases h
                | some old =>
                  simp only [hfo] at h
                  cases hck : (Nat.blt 0 te.size && Nat.ble ((sLen + n) * te.bytes) most && Nat.ble (sLen + n) most && sizeIs te.size te.zero && allV isCell new && Nat.beq (old.length + new.length) ((sLen + n) * te.size) && allV isCell te.zero) with
                  | false => rw [hck] at h; cases h
                  | true =>
                    rw [hck] at h
                    simp only [cond_true] at h
                    simp only [Bool.and_eq_true, nat_beq_eq, decide_eq_true_eq, sizeIs_iff] at hck
                    obtain ⟨⟨⟨⟨⟨⟨k1, k2⟩, k3⟩, k4⟩, k5⟩, k6⟩, k7⟩ := hck
                    have k1 := blt_lt k1
                    have k2 := Nat.le_of_ble_eq_true k2
                    have k3 := Nat.le_of_ble_eq_true k3
                    have hs1 : SR ι s { w with drawn := w.drawn + 1 } := hs.of_heap rfl
                    obtain ⟨old', hol, hocs, hor⟩ := firstN_run' hs1 hfo hy0 rfl (Nat.le_refl sLen)
                    obtain ⟨new1, hnl1, hnr1⟩ := firstN_run hs1 hfn hy1 hlx (Nat.le_refl n)
                    have hlen2 : (old ++ new).length = (sLen + n) * te.size := by rw [List.length_append]; exact k6
                    -- a new row
                    have grow : (∀ v ∈ old', isCell v = true) → ∀ (s0 : St) (base' : Option Addr) (sCap' : Nat), y0 = .slice base' sLen sCap' → sCap' < sLen + n → (∀ m p, s0.heap.get m = some p → s.heap.get m = some p) → s0.next = s.next →
                        v = .slice (some ⟨s.next, 0, none⟩) (sLen + n) (sLen + n) → s' = { heap := s0.heap.set s.next (.cells (old ++ new) (some te.size) false), next := s.next + 1 } → Does P ι s ρ' o v s' w := by
                      intro hoc s0 base' sCap' hy hlt hsub hnx hv hs'
                      subst hy hv hs'
                      obtain ⟨newCap, rest', cc, g1, g2, gz, g3, g4⟩ := append_out (t := default) hT hlt k2 k3 k1 k4 hlen (hnr1 P) (hor P)
                      have hcell : ∀ v ∈ cc.toList, isCell v = true := by
                        intro v hv
                        rw [g3] at hv
                        rcases List.mem_append.1 hv with hv | hv
                        · rcases List.mem_append.1 hv with hv | hv
                          · exact hoc v hv
                          · exact hnl1.isCell k5 v hv
                        · exact allV_mem.1 k7 v (gz v hv)
                      obtain ⟨ι', g5, g6⟩ := grown_post (e := e) hs hsub hnx hol hnl1 k1 hlen2 g3 g2 g1 hcell
                      exact mk (fun t => g4) g5 g6
                    have exactCap : ∀ (a : Addr), base = some a → (∀ cs ro, s.heap.get a.block = some (.cells cs none ro) → ∃ base' sCap', y0 = .slice base' sLen sCap' ∧ sCap' < sLen + n) := by
                      intro a hb cs ro hg
                      subst hb
                      rcases hy0.slice_some with ⟨nm, off, ni, cap', rfl, hni, hy, hco, hcc'⟩ | ⟨a', e1, e2, hy⟩
                      · have hes : ni.esz = none := by obtain ⟨_, _, _, _, _, h3, _⟩ := hs.cells hg hni; exact h3
                        refine ⟨_, _, hy, ?_⟩
                        rcases hco with rfl | ⟨k, _, hk, _⟩
                        · exact hgt
                        · rw [hes] at hk; cases hk
                      · exact ⟨_, 0, by rw [hy, e1], by omega⟩
                    cases base with
                    | none =>
                      simp only at h; cases h
                      generalize hyy : y0 = yy at hy0
                      cases hy0
                      exact grow (by simp only [firstN] at hfo; cases hfo; cases hol; intro v hv; cases hv) s none sCap hyy hgt (fun _ _ h => h) rfl rfl rfl
                    | some a =>
                      simp only at h
                      cases hg : s.heap.get a.block with
                      | none => rw [hg] at h; cases h
                      | some ob =>
                        rw [hg] at h
                        cases ob <;> (try simp only at h) <;> first | (cases h; done) | skip
                        rename_i cs esz ro
                        cases esz with
                        | none =>
                          simp only at h
                          cases hco : allV isCell old with
                          | false => rw [hco] at h; cases h
                          | true =>
                          rw [hco] at h
                          simp only [cond_true] at h; cases h
                          obtain ⟨b', c', hy, hlt⟩ := exactCap a rfl cs ro hg
                          exact grow (hol.isCell hco) s b' c' hy hlt (fun _ _ h => h) rfl rfl rfl
                        | some k =>
                          cases ro with
                          | true => simp only at h; cases h
                          | false =>
                            simp only at h
                            cases hk : Nat.beq k te.size with
                            | false => rw [hk] at h; cases h
                            | true =>
                              rw [hk] at h
                              simp only [cond_true] at h
                              simp only [nat_beq_eq, decide_eq_true_eq] at hk
                              subst hk
                              cases h
                              have hsubd : ∀ m p, (s.heap.del a.block).get m = some p → s.heap.get m = some p := by
                                intro m p hm
                                rw [Tr.get_del] at hm
                                split at hm
                                · cases hm
                                · exact hm
                              rcases hy0.slice_some with ⟨nm, off, ni, cap', rfl, hni, hy, hco, hcc'⟩ | ⟨a', e1, e2, hy⟩
                              · by_cases hfit : sLen + n ≤ cap'
                                · -- it goes on in place
                                  have hsc : ni.d + off + cap' * te.size = ni.sc := by
                                    rcases hco with rfl | ⟨k, _, hk1, _, hk3⟩
                                    · omega
                                    · have hes : ni.esz = some te.size := by obtain ⟨_, _, _, _, _, h3, _⟩ := hs.cells hg hni; exact h3
                                      rw [hes] at hk1; cases hk1
                                      exact hk3
                                  have hold : takeN (sLen * te.size) (cs.drop off) = some old := by
                                    simp only [firstN, hg] at hfo
                                    simpa using hfo
                                  obtain ⟨w', g1, ι', g2, g3⟩ := inplace_post hs hg hni hold hnl k5 rfl k6 hfit hsc
                                  subst hy
                                  exact mk (fun t => append_in hT hfit hlen (hnr P) (.inr ⟨_, rfl, by rw [add_spot]; exact g1 P⟩)) g2 g3
                                · exact grow (hocs _ _ _ _ _ _ rfl hg) { heap := s.heap.del nm, next := s.next } _ cap' hy (by omega) hsubd rfl rfl rfl
                              · exact grow (hocs _ _ _ _ _ _ rfl hg) { heap := s.heap.del a.block, next := s.next } (some a') 0 (by rw [hy, e1]) (by omega) hsubd rfl rfl rfl

theorem does_copy (hE : E.Ok P) (hρ : Env' ι ρ ρ') (hs : SR ι s w) {o : Oper} {c : Call} {vs : List Value} {v : Value} (ho : o.op = .call c) (hcc : c.callee = .builtin .copy) (hev : evalL ρ c.args.toList = some vs)
    (h : acopy E s c.argTypes.toList vs = some (v, s')) : Does P ι s ρ' o v s' w := by
  unfold acopy at h
  split at h
  case h_2 => cases h
  case h_1 dt rst base dLen dCap src hat =>
  have hl := evalL_LR hρ hev
  generalize hg0 : c.args.toList.map ρ' = ws at hl
  cases hl with
  | cons _ y0 _ ys hy0 hys =>
  cases hys with
  | cons _ y1 _ ys1 hy1 hys1 =>
  cases hys1
  have hargs : c.args.map ρ' = ⟨[y0, y1]⟩ := by apply array_eq_of_toList; simpa using hg0
  have htys : c.argTypes = ⟨dt :: rst⟩ := by apply Array.ext'; simpa using hat
  have h0 : (⟨dt :: rst⟩ : Array TypeId)[0]? = some dt := rfl
  have e0 : (⟨[y0, y1]⟩ : Array Value)[0]? = some y0 := rfl
  have e1 : (⟨[y0, y1]⟩ : Array Value)[1]? = some y1 := rfl
  cases ht : E.ty.get dt with
  | none => simp only [ht] at h; cases h
  | some ti =>
    simp only [ht] at h
    have hu := (hE.ty _ _ ht).und
    cases hd : ti.und <;> simp only [hd] at h hu <;> first | (cases h; done) | skip
    rename_i e
    cases he : E.ty.get e with
    | none => simp only [he] at h; cases h
    | some te => cases hlx : lenOf src with
      | none => simp only [he, hlx] at h; cases h
      | some n =>
        simp only [he, hlx] at h
        cases hfn : firstN s te.size (Nat.min n dLen) src with
        | none => rw [hfn] at h; cases h
        | some new =>
          simp only [hfn] at h
          obtain ⟨new', hnl, hnr⟩ := firstN_run hs hfn hy1 hlx (Nat.min_le_left _ _)
          have hlen := lenOf_run (P := P) (w := w) hlx hy1
          have mk : ∀ {base' : Option Addr} {cap' : Nat} {w' : World}, y0 = .slice base' dLen cap' → v = .int .i64 (Nat.min n dLen) → ((base' = none ∧ w' = w) ∨ ∃ a, base' = some a ∧ (storeCells a new').run P w = .ok () w') → Post ι s w ι s' w' → Does P ι s ρ' o v s' w := by
            intro base' cap' w' hy hv hst hp
            subst hy hv
            refine builtin_does (f := Builtin.copy_) (v' := .int .i64 (Nat.min n dLen)) ho hcc (fun _ _ _ => rfl) (fun t => ?_) (.int _ _) hp
            rw [hargs, htys]
            unfold Builtin.copy_
            simp only [h0, e0, e1, Sem.run_bind, run_underlying hu, Result.andThen_ok, hlen, (hE.ty _ _ he).run_size, hnr P]
            rcases hst with ⟨rfl, rfl⟩ | ⟨a, rfl, hst⟩
            · simp [goInt]
            · simp [goInt, hst]
          cases base with
          | none =>
            simp only at h; cases h
            generalize hyy : y0 = yy at hy0
            cases hy0
            exact mk hyy rfl (.inl ⟨rfl, rfl⟩) (Post.refl hs)
          | some a =>
            cases new with
            | nil =>
              simp only at h; cases h
              cases hnl
              rcases hy0.slice_some with ⟨nm, off, ni, cap', rfl, hni, hy, hco, hcc'⟩ | ⟨a', e1, e2, hy⟩
              · exact mk hy rfl (.inr ⟨_, rfl, by simp [storeCells]⟩) (Post.refl hs)
              · exact mk (cap' := 0) (by rw [hy, e1]) rfl (.inr ⟨_, rfl, by simp [storeCells]⟩) (Post.refl hs)
            | cons u us =>
              simp only at h
              cases hw : writable s a.block with
              | none => rw [hw] at h; cases h
              | some ce =>
                obtain ⟨cs, esz⟩ := ce
                simp only [hw] at h
                cases hcl : (allV isCell (u :: us) && a.spot.isNone) with
                | false => rw [hcl] at h; cases h
                | true =>
                  simp only [hcl, cond_true] at h
                  simp only [Bool.and_eq_true] at hcl
                  cases hset : setN cs a.off (u :: us) with
                  | none => rw [hset] at h; cases h
                  | some c1 =>
                    simp only [hset] at h
                    cases h
                    rcases hy0.slice_some with ⟨nm, off, ni, cap', rfl, hni, hy, hco, hcc'⟩ | ⟨a', e1, e2, hy⟩
                    · obtain ⟨w', hrun, hpost⟩ := hs.write (writable_eq hw) hni hset hnl hcl.1
                      exact mk hy rfl (.inr ⟨_, rfl, hrun P⟩) hpost
                    · exfalso
                      subst e1
                      have hz : Nat.min n 0 = 0 := Nat.min_zero n
                      rw [hz] at hfn
                      have := firstN_zero hfn
                      cases this

theorem does_clear (hE : E.Ok P) (hρ : Env' ι ρ ρ') (hs : SR ι s w) {o : Oper} {c : Call} {vs : List Value} {v : Value} (ho : o.op = .call c) (hcc : c.callee = .builtin .clear) (hev : evalL ρ c.args.toList = some vs)
    (h : aclear E s c.argTypes.toList vs = some (v, s')) : Does P ι s ρ' o v s' w := by
  unfold aclear at h
  split at h
  case h_2 => cases h
  case h_1 t0 rst x hat =>
  have hl := evalL_LR hρ hev
  generalize hg0 : c.args.toList.map ρ' = ws at hl
  cases hl with
  | cons _ y0 _ ys hy0 hys =>
  cases hys
  have hargs : c.args.map ρ' = ⟨[y0]⟩ := by apply array_eq_of_toList; simpa using hg0
  have htys : c.argTypes = ⟨t0 :: rst⟩ := by apply Array.ext'; simpa using hat
  have h0 : (⟨t0 :: rst⟩ : Array TypeId)[0]? = some t0 := rfl
  have e0 : (⟨[y0]⟩ : Array Value)[0]? = some y0 := rfl
  cases ht : E.ty.get t0 with
  | none => simp only [ht] at h; cases h
  | some ti =>
    simp only [ht] at h
    have hu := (hE.ty _ _ ht).und
    have mk : ∀ {w' : World}, v = .tuple #[] → (∀ t, (Builtin.clear_ ⟨t0 :: rst⟩ t ⟨[y0]⟩).run P w = .ok (.tuple #[]) w') → Post ι s w ι s' w' → Does P ι s ρ' o v s' w := by
      intro w' hv hr hp
      subst hv
      exact builtin_does (f := Builtin.clear_) ho hcc (fun _ _ _ => rfl) (fun t => by rw [hargs, htys]; exact hr t) (.tuple [] [] .nil) hp
    split at h
    · rename_i hd; rw [hd] at hu; cases h
      generalize hyy : y0 = yy at hy0
      cases hy0
      exact mk rfl (fun t => by subst hyy; unfold Builtin.clear_; simp only [h0, e0, Sem.run_bind, run_underlying hu, Result.andThen_ok]; simp) (Post.refl hs)
    · rename_i r hd; rw [hd] at hu
      obtain ⟨ni, hni, rfl⟩ := hy0.map_some
      cases hg : s.heap.get r with
      | none => rw [hg] at h; cases h
      | some ob =>
        rw [hg] at h
        cases ob <;> (try simp only at h) <;> first | (cases h; done) | skip
        rename_i es clock
        cases h
        obtain ⟨es', hw, hes⟩ := hs.map hg hni
        exact mk rfl (fun t => by unfold Builtin.clear_; simp only [h0, e0, Sem.run_bind, run_underlying hu, Result.andThen_ok]; simp [run_getMap hw, run_setObj hw (by intros; simp)]) (hs.mapSet hg hni .nil ⟨by simp, by simp⟩)
    · rename_i hd; rw [hd] at hu; cases h
      generalize hyy : y0 = yy at hy0
      cases hy0
      exact mk rfl (fun t => by subst hyy; unfold Builtin.clear_; simp only [h0, e0, Sem.run_bind, run_underlying hu, Result.andThen_ok]; simp) (Post.refl hs)
    · rename_i a cap hd; rw [hd] at hu; cases h
      rcases hy0.slice_some with ⟨nm, off, ni, cap', rfl, hni, rfl, hco, hcc'⟩ | ⟨a', e1, e2, rfl⟩
      · exact mk rfl (fun t => by unfold Builtin.clear_; simp only [h0, e0, Sem.run_bind, run_underlying hu, Result.andThen_ok]; simp) (Post.refl hs)
      · exact mk rfl (fun t => by unfold Builtin.clear_; simp only [h0, e0, Sem.run_bind, run_underlying hu, Result.andThen_ok]; simp) (Post.refl hs)
    · rename_i e a n cap hd; rw [hd] at hu
      cases he : E.ty.get e with
      | none => simp only [he] at h; cases h
      | some te => cases hw : writable s a.block with
        | none => simp only [he, hw] at h; cases h
        | some ce =>
          obtain ⟨cs, esz⟩ := ce
          simp only [he, hw] at h
          have hTe := hE.ty _ _ he
          cases hcl : (Nat.blt 0 te.size && sizeIs te.size te.zero && allV isCell te.zero && a.spot.isNone) with
          | false => rw [hcl] at h; cases h
          | true =>
            rw [hcl] at h
            simp only [cond_true] at h
            simp only [Bool.and_eq_true, sizeIs_iff] at hcl
            obtain ⟨⟨⟨k1, k2⟩, k3⟩, _⟩ := hcl
            have k1 := blt_lt k1
            cases hset : setN cs a.off (repN (n + 1) te.zero) with
            | none => rw [hset] at h; cases h
            | some c1 =>
              simp only [hset] at h
              cases h
              rcases hy0.slice_some with ⟨nm, off, ni, cap', rfl, hni, rfl, hco, hcc'⟩ | ⟨a', e1, e2, rfl⟩
              · have hall : ∀ m, ∀ v ∈ repN m te.zero, v ∈ te.zero := by
                  intro m
                  induction m with
                  | zero => intro v hv; simp [repN] at hv
                  | succ m ih => intro v hv; simp only [repN, List.mem_append] at hv; rcases hv with hv | hv; exact hv; exact ih v hv
                have hrep : LR ι (repN (n + 1) te.zero) (repN (n + 1) te.zero) := .self fun v hv => plainV_VR (hTe.plain v (hall _ v hv))
                have hcells : allV isCell (repN (n + 1) te.zero) = true := allV_mem.2 fun v hv => allV_mem.1 k3 v (hall _ v hv)
                obtain ⟨w', hrun, hpost⟩ := hs.write (writable_eq hw) hni hset hrep hcells
                obtain ⟨z, hz, hzc, _⟩ := hTe.run_zero w
                have hzs : z.cells.size = te.size := by rw [← Array.length_toList, hzc]; exact k2
                refine mk rfl (fun t => ?_) hpost
                unfold Builtin.clear_
                simp only [h0, e0, Sem.run_bind, run_underlying hu, Result.andThen_ok, hz]
                rw [zeroCells_eq z.cells (n + 1) (by omega), hzc]
                simp [hrun P]
              · cases e1
    · cases h

theorem does_delete (hE : E.Ok P) (hρ : Env' ι ρ ρ') (hs : SR ι s w) {o : Oper} {c : Call} {vs : List Value} {v : Value} (ho : o.op = .call c) (hcc : c.callee = .builtin .delete) (hev : evalL ρ c.args.toList = some vs)
    (h : adelete E s c.argTypes.toList vs = some (v, s')) : Does P ι s ρ' o v s' w := by
  unfold adelete at h
  split at h
  case h_2 => cases h
  case h_1 t0 rst m k hat =>
  have hl := evalL_LR hρ hev
  generalize hg0 : c.args.toList.map ρ' = ws at hl
  cases hl with
  | cons _ y0 _ ys hy0 hys =>
  cases hys with
  | cons _ y1 _ ys1 hy1 hys1 =>
  cases hys1
  have hargs : c.args.map ρ' = ⟨[y0, y1]⟩ := by apply array_eq_of_toList; simpa using hg0
  have htys : c.argTypes = ⟨t0 :: rst⟩ := by apply Array.ext'; simpa using hat
  have h0 : (⟨t0 :: rst⟩ : Array TypeId)[0]? = some t0 := rfl
  have e0 : (⟨[y0, y1]⟩ : Array Value)[0]? = some y0 := rfl
  have e1 : (⟨[y0, y1]⟩ : Array Value)[1]? = some y1 := rfl
  cases ht : E.ty.get t0 with
  | none => simp only [ht] at h; cases h
  | some ti =>
    simp only [ht] at h
    have hu := (hE.ty _ _ ht).und
    have mk : ∀ {w' : World}, v = .tuple #[] → (∀ t, (Builtin.delete_ ⟨t0 :: rst⟩ t ⟨[y0, y1]⟩).run P w = .ok (.tuple #[]) w') → Post ι s w ι s' w' → Does P ι s ρ' o v s' w := by
      intro w' hv hr hp
      subst hv
      exact builtin_does (f := Builtin.delete_) ho hcc (fun _ _ _ => rfl) (fun t => by rw [hargs, htys]; exact hr t) (.tuple [] [] .nil) hp
    split at h
    · rename_i kt et hd; rw [hd] at hu
      cases hok : keyOk E 6 kt k with
      | false => rw [hok] at h; cases h
      | true =>
        simp only [hok, cond_true] at h
        cases h
        have hck := keyOk_run hE (w := w) true 6 hok hy1 10000 (by omega)
        generalize hyy : y0 = yy at hy0
        cases hy0
        exact mk rfl (fun t => by subst hyy; unfold Builtin.delete_; simp only [h0, e0, e1, Sem.run_bind, run_underlying hu, Result.andThen_ok]; simp [hck]) (Post.refl hs)
    · rename_i kt et r hd; rw [hd] at hu
      obtain ⟨ni, hni, rfl⟩ := hy0.map_some
      cases hg : s.heap.get r with
      | none => rw [hg] at h; cases h
      | some ob =>
        rw [hg] at h
        cases ob <;> (try simp only at h) <;> first | (cases h; done) | skip
        rename_i es clock
        obtain ⟨es', hw, hes⟩ := hs.map hg hni
        cases hok : keyOk E 6 kt k with
        | false => rw [hok] at h; cases h
        | true =>
          simp only [hok, cond_true] at h
          have hck := keyOk_run hE (w := w) es'.isEmpty 6 hok hy1 10000 (by omega)
          cases hf : findI E s kt k es 0 with
          | none => rw [hf] at h; cases h
          | some ro =>
            simp only [hf] at h
            obtain ⟨r', hr1, hr2⟩ := findKey_run hE hs hy1 hok hes hf
            have hso : ∀ o2, (setObj ni.blk o2).run P w = .ok () (wput w ni.blk o2) := fun o2 => run_setObj hw (by intros; simp)
            rcases hr2 with ⟨rfl, rfl⟩ | ⟨j, f, rfl, hf2, rfl⟩
            · simp only at h; cases h
              refine mk rfl (fun t => ?_) (Post.refl hs)
              unfold Builtin.delete_
              simp only [h0, e0, e1, Sem.run_bind, run_underlying hu, Result.andThen_ok, run_getMap hw, hck, hr1, hso, Sem.run_pure]
              rw [wput_self hw]
            · simp only [Nat.zero_add] at h
              cases h
              refine mk (w' := wput w ni.blk (.map (es'.eraseIdxIfInBounds j) clock)) rfl (fun t => ?_) (hs.mapSet hg hni ?_ ((hs.stamped hg).sub (delI_sub es j)))
              · unfold Builtin.delete_
                simp only [h0, e0, e1, Sem.run_bind, run_underlying hu, Result.andThen_ok, run_getMap hw, hck, hr1, hso, Sem.run_pure, Nat.zero_add]
              · have := hes.delI j
                simpa using this
    · cases h

/-- EVERY OPERATION THAT WRITES. -/
theorem achain_does (hE : E.Ok P) (hρ : Env' ι ρ ρ') (hs : SR ι s w) {o : Oper} {v : Value} (h : achain E ρ o s = some (v, s')) : Does P ι s ρ' o v s' w := by
  cases ho : o.op with
  | store t x u => exact does_store hE hρ hs ho h
  | mapUpdate t m k u => exact does_mapUpdate hE hρ hs (.inl ho) h
  | insert t m k u => exact does_mapUpdate hE hρ hs (.inr ho) h
  | range t x => exact does_range hE hρ hs ho h
  | next x b =>
    cases b with
    | false => exact does_next hρ hs ho h
    | true => unfold achain at h; simp only [ho] at h; cases h
  | call c =>
    unfold achain at h
    simp only [ho] at h
    cases hcc : c.callee with
    | builtin b =>
      cases hev : evalL ρ c.args.toList with
      | none => simp only [hcc, hev] at h; cases b <;> cases h
      | some vs =>
        simp only [hcc, hev] at h
        cases b <;> simp only at h <;> first | (cases h; done) | skip
        · exact does_append hE hρ hs ho hcc hev h
        · exact does_clear hE hρ hs ho hcc hev h
        · exact does_copy hE hρ hs ho hcc hev h
        · exact does_delete hE hρ hs ho hcc hev h
    | value f => simp only [hcc] at h; cases h
    | invoke r m => simp only [hcc] at h; cases h
  | _ => unfold achain at h; simp only [ho] at h; cases h

end
end Go.Sh

namespace Go.Sh
open Go

variable [Sg : Sig]

/-! ### what an operation looks at -/
section
variable {E : Env} {ρ σ : Operand → Option Value}

omit Sg in
theorem evalL_congr {l : List Operand} (h : ∀ x ∈ l, ρ x = σ x) : evalL ρ l = evalL σ l := by
  induction l with
  | nil => rfl
  | cons x xs ih =>
    simp only [evalL]
    rw [h x (by simp), ih fun y hy => h y (by simp [hy])]

omit Sg in
theorem evalP_congr {l : List (Nat × Operand)} (h : ∀ p ∈ l, ρ p.2 = σ p.2) : evalP ρ l = evalP σ l := by
  induction l with
  | nil => rfl
  | cons x xs ih =>
    obtain ⟨i, x⟩ := x
    simp only [evalP]
    have := h (i, x) (by simp)
    simp only at this
    rw [this, ih fun y hy => h y (by simp [hy])]

omit Sg in
theorem oev_congr {o : Option Operand} (h : ∀ x, o = some x → ρ x = σ x) : oev ρ o = oev σ o := by
  cases o with
  | none => rfl
  | some x => simp only [oev]; rw [h x rfl]

omit Sg in
theorem call_args {c : Call} (h : ∀ x ∈ c.operands, ρ x = σ x) : evalL ρ c.args.toList = evalL σ c.args.toList :=
  evalL_congr fun x hx => h x (by simp [Call.operands]; exact .inr (by simpa using hx))

omit Sg in
theorem apure_congr {o : Oper} (h : ∀ x ∈ o.op.operands, ρ x = σ x) : apure E ρ o = apure E σ o := by
  obtain ⟨dst, op, type, pos, after, guard⟩ := o
  cases op <;> simp only [Op.operands] at h <;> simp only [apure]
  case build t ps => rw [evalP_congr (ρ := ρ) (σ := σ) fun p hp => h p.2 (by simp; exact ⟨p.1, by simpa using hp⟩)]
  case makeFunc fn first captured =>
    rw [evalL_congr (ρ := ρ) (σ := σ) (l := first.toList) fun x hx => h x (by simp; exact .inl (by simpa using hx)),
      evalL_congr (ρ := ρ) (σ := σ) (l := captured.toList) fun x hx => h x (by simp; exact .inr (by simpa using hx))]
  case call c => rw [call_args h]
  all_goals (first | rfl | (simp_all; done))

omit Sg in
theorem aread_congr {o : Oper} {s : St} (h : ∀ x ∈ o.op.operands, ρ x = σ x) : aread E ρ o s = aread E σ o s := by
  obtain ⟨dst, op, type, pos, after, guard⟩ := o
  cases op <;> simp only [Op.operands] at h <;> simp only [aread]
  case slice t x lo hi mx =>
    have h0 : ρ x = σ x := h x (by simp)
    have h1 : oev ρ lo = oev σ lo := oev_congr fun y hy => h y (by simp [hy])
    have h2 : oev ρ hi = oev σ hi := oev_congr fun y hy => h y (by simp [hy])
    have h3 : oev ρ mx = oev σ mx := oev_congr fun y hy => h y (by simp [hy])
    rw [h0, h1, h2, h3]
  case call c => rw [call_args h]
  case binOp op t x y yt =>
    have h0 : ρ x = σ x := h x (by simp)
    have h1 : ρ y = σ y := h y (by simp)
    cases op <;> simp only [aread] <;> rw [h0, h1]
  all_goals (first | rfl | (simp_all; done))

omit Sg in
theorem aalloc_congr {o : Oper} (h : ∀ x ∈ o.op.operands, ρ x = σ x) : aalloc E ρ o = aalloc E σ o := by
  obtain ⟨dst, op, type, pos, after, guard⟩ := o
  cases op <;> simp only [Op.operands] at h <;> simp only [aalloc]
  case buildSlice t n ps => rw [evalP_congr (ρ := ρ) (σ := σ) fun p hp => h p.2 (by simp; exact ⟨p.1, by simpa using hp⟩)]
  case makeMap t r => rw [oev_congr (ρ := ρ) (σ := σ) fun y hy => h y (by simp [hy])]
  all_goals (first | rfl | (simp_all; done))

omit Sg in
theorem achain_congr {o : Oper} {s : St} (h : ∀ x ∈ o.op.operands, ρ x = σ x) : achain E ρ o s = achain E σ o s := by
  obtain ⟨dst, op, type, pos, after, guard⟩ := o
  cases op <;> simp only [Op.operands] at h <;> simp only [achain]
  case call c => rw [call_args h]
  case next x b => cases b <;> simp only [achain]; rw [h x (by simp)]
  all_goals (first | rfl | (simp_all; done))

omit Sg in
theorem callee_congr {c : Call} (h : ∀ x ∈ c.operands, ρ x = σ x) : callee ρ c = callee σ c := by
  unfold callee
  cases hc : c.callee with
  | value f =>
    have hf : ρ f = σ f := h f (by simp [Call.operands, hc])
    simp only [hf, call_args h]
  | _ => rfl

end

/-! ### acts -/
inductive DR (ι : Inj) : List Deferred → List Deferred → Prop
  | nil : DR ι [] []
  | cons (fn : Fn) (cap cap' as as' : List Value) (ds es : List Deferred) (h1 : LR ι cap cap') (h2 : LR ι as as') (hs : DR ι ds es) :
      DR ι ({ target := .fn fn ⟨cap⟩, args := ⟨as⟩ } :: ds) ({ target := .fn fn ⟨cap'⟩, args := ⟨as'⟩ } :: es)

theorem DR.mono {ι ι' : Inj} (hx : Ext ι ι') {ds es : List Deferred} (h : DR ι ds es) : DR ι' ds es := by
  induction h with
  | nil => exact .nil
  | cons fn cap cap' as as' ds es h1 h2 _ ih => exact .cons fn cap cap' as as' ds es (h1.mono hx) (h2.mono hx) ih

structure AR (ι : Inj) (a : AA) (ac : Act) : Prop where
  size : ac.tmps.size = a.n
  tm : ∀ t, VR ι (a.look t) (ac.tmps.getD t undef)
  df : DR ι a.df ac.defers

theorem AR.mono {ι ι' : Inj} (hx : Ext ι ι') {a : AA} {ac : Act} (h : AR ι a ac) : AR ι' a ac :=
  ⟨h.size, fun t => (h.tm t).mono hx, h.df.mono hx⟩

theorem AR.eval {ι : Inj} {a : AA} {ac : Act} (h : AR ι a ac) : Env' ι a.eval ac.eval := by
  intro x v hx
  cases x with
  | tmp t => simp only [AA.eval] at hx; cases hx; exact h.tm t
  | const u =>
    simp only [AA.eval] at hx
    cases hp : plainV u with
    | false => rw [hp] at hx; cases hx
    | true => rw [hp] at hx; cases hx; exact plainV_VR hp
  | global g => simp only [AA.eval] at hx; cases hx
  | func f => simp only [AA.eval] at hx; cases hx; exact .func _ [] [] [] [] .nil .nil

omit Sg in
theorem AA.look_put {a a' : AA} {dst : Option Tmp} {v : Value} (h : a.put dst v = some a') : a'.n = a.n ∧ a'.df = a.df ∧ (∀ d, dst = some d → d < a.n) ∧ ∀ t, a'.look t = if dst = some t then v else a.look t := by
  unfold AA.put at h
  cases dst with
  | none => simp only at h; cases h; simp
  | some d =>
    simp only at h
    cases hb : Nat.blt d a.n with
    | false => rw [hb] at h; cases h
    | true =>
      rw [hb] at h; simp only [cond_true] at h; cases h
      refine ⟨rfl, rfl, fun d' hd => by cases hd; exact blt_lt hb, fun t => ?_⟩
      simp only [AA.look, Tr.get_set]
      by_cases e : t = d
      · subst e; simp
      · rw [if_neg e, if_neg (by simpa using fun h => e h.symm)]

theorem AR.put {ι : Inj} {a a' : AA} {ac : Act} (h : AR ι a ac) {dst : Option Tmp} {v v' : Value} (hp : a.put dst v = some a') (hv : VR ι v v') : AR ι a' (ac.put dst v') := by
  obtain ⟨h1, h2, h3, h4⟩ := AA.look_put hp
  refine ⟨?_, fun t => ?_, ?_⟩
  · rw [h1, ← h.size]; cases dst <;> simp [Act.put]
  · rw [h4]
    cases dst with
    | none => simpa [Act.put] using h.tm t
    | some d =>
      have hd : d < ac.tmps.size := by rw [h.size]; exact h3 d rfl
      by_cases e : d = t
      · subst e; simp [Act.put, hd]; exact hv
      · rw [if_neg (by simpa using e)]
        have := h.tm t
        simpa [Act.put, Array.getElem?_setIfInBounds_ne e] using this
  · rw [h2]; cases dst <;> exact h.df

omit Sg in
theorem word_not_bool {v : Value} (h : isWord v = true) (want : Bool) : false = ((match some v with
    | some (.bool b) => some b
    | _ => none) == some want) := by
  cases v <;> first | rfl | cases h

theorem wantedA_eq {ι : Inj} {a : AA} {ac : Act} (h : AR ι a ac) (ops : Array Oper) (o : Oper) : wantedA ops.toList o a = Region.wanted o (yielded ops ac.tmps) := by
  unfold wantedA Region.wanted
  cases hg : o.guard with
  | none => rfl
  | some gw =>
    obtain ⟨j, want⟩ := gw
    simp only
    unfold yielded
    simp only [Array.getElem?_toList]
    cases ho : ops[j]? with
    | none => simp
    | some oj =>
      simp only [Option.bind_some]
      cases hd : oj.dst with
      | none => simp
      | some d =>
        simp only [Option.bind_some]
        by_cases hlt : d < a.n
        · have hb : Nat.blt d a.n = true := Nat.ble_eq_true_of_le hlt
          have hs : d < ac.tmps.size := by rw [h.size]; exact hlt
          simp only [hb, cond_true]
          have hv := h.tm d
          have hget : ac.tmps[d]? = some (ac.tmps.getD d undef) := by simp [hs]
          rw [hget]
          generalize ac.tmps.getD d undef = y at hv
          cases hx : a.look d <;> rw [hx] at hv <;> cases hv <;> first | rfl | (exact word_not_bool (Sg.word _) _) | (exact word_not_bool (by assumption) _) | (rename_i b; cases b <;> cases want <;> rfl)
        · have hb : Nat.blt d a.n = false := by
            cases hq : Nat.blt d a.n with
            | false => rfl
            | true => exact absurd (blt_lt hq) hlt
          simp only [hb, cond_false]
          rw [Array.getElem?_eq_none (by rw [h.size]; exact Nat.le_of_not_lt hlt)]
          simp

/-- What a run of calls must be good for. -/
def CallsOk (P : Program) (callK : FuncId → List Value → St → Option (Value × St)) : Prop :=
  ∀ g args s v s', callK g args s = some (v, s') → ∀ ι w ws, SR ι s w → LR ι args ws → CallDone P ι s w g ws v s'

section
variable {E : Env} {P : Program} {ι : Inj} {s s' : St} {w : World}

theorem callee_run (hE : E.Ok P) {a : AA} {ρ' : Operand → Value} {ρ : Operand → Option Value} (hρ : Env' ι ρ ρ') {o : Oper} {c : Call} (ho : o.op = .call c) {g : FuncId} {args : List Value} (hc : callee ρ c = some (g, args)) :
    ∃ ws, LR ι args ws ∧ (execOp ρ' o).run P w = (callFunc g ⟨ws⟩).run P w := by
  unfold callee at hc
  cases hcc : c.callee with
  | builtin b => simp only [hcc] at hc; cases hc
  | invoke r m => simp only [hcc] at hc; cases hc
  | value f =>
    simp only [hcc] at hc
    cases hf : ρ f with
    | none => rw [hf] at hc; cases hc
    | some fv => cases hev : evalL ρ c.args.toList with
      | none => rw [hf, hev] at hc; cases fv <;> (try cases hc); rename_i fn _ _; cases fn <;> cases hc
      | some vs =>
        rw [hf, hev] at hc
        cases fv <;> (try simp only at hc) <;> first | (cases hc; done) | skip
        rename_i fn first captured
        cases fn <;> (try simp only at hc) <;> first | (cases hc; done) | skip
        rename_i g0
        cases hc
        have hv := hρ _ _ hf
        have hl := evalL_LR hρ hev
        generalize hy : ρ' f = y at hv
        cases hv with
        | func _ _ _ us ws' h1 h2 =>
          refine ⟨us ++ (c.args.map ρ').toList ++ ws', ?_, ?_⟩
          · refine (h1.append ?_).append h2
            simpa using hl
          · unfold execOp
            simp only [ho, resolve, hcc, hy]
            simp only [Deferred.ofValue, Sem.run_bind, Sem.run_pure, Result.andThen_ok, invoke]
            congr 2
            apply array_eq_of_toList
            simp

/-- One operation that is wanted: it goes on with what the shadow's comes to. -/
theorem step_wp (hE : E.Ok P) {ac : Act} {o : Oper} {ρ : Operand → Option Value} (hρ : Env' ι ρ ac.eval) (hs : SR ι s w) {next : Act → World → Prop} {Q : Exit → Act → World → Prop} {v : Value}
    (hstep : (cls E o.op = .pure ∧ apure E ρ o = some v ∧ s' = s) ∨ (cls E o.op = .read ∧ aread E ρ o s = some v ∧ s' = s) ∨ achain E ρ o s = some (v, s') ∨
      (∃ ob f, aalloc E ρ o = some (ob, f) ∧ v = f s.next ∧ s' = { heap := s.heap.set s.next ob, next := s.next + 1 }))
    (hk : ∀ ι' v' w', VR ι' v v' → Post ι s w ι' s' w' → next (ac.put o.dst v') w') : o.wp P ac w next Q := by
  unfold Oper.wp
  rcases hstep with ⟨hc, hp, rfl⟩ | ⟨hc, hp, rfl⟩ | hp | ⟨ob, f, hp, rfl, rfl⟩
  · obtain ⟨v', h1, h2⟩ := apure_meets hE hρ hc hp w
    rw [h1, Oper.upon_value]
    exact hk ι v' w h2 (Post.refl hs)
  · obtain ⟨v', h1, h2⟩ := aread_meets hE hρ hs hc hp
    rw [h1, Oper.upon_value]
    exact hk ι v' w h2 (Post.refl hs)
  · obtain ⟨nx, v', w', ι', h1, h2, h3, h4⟩ := achain_does hE hρ hs hp
    rw [h1]
    rcases h2 with rfl | ⟨rfl, rfl⟩
    · rw [Oper.upon_value]; exact hk ι' v' w' h3 h4
    · rw [Oper.upon_skip]; exact hk ι' _ w' h3 h4
  · obtain ⟨v', ob', ni, h1, h2, hz, h3⟩ := aalloc_makes (w := w) hE hρ hp
    obtain ⟨h4, h5⟩ := h3 s.next (next_none hs)
    rw [h1, Oper.upon_value]
    exact hk _ v' _ h5 (Post.push hs h2 h4 hz)

theorem call_wp (hE : E.Ok P) {ac : Act} {o : Oper} {ρ : Operand → Option Value} (hρ : Env' ι ρ ac.eval) (hs : SR ι s w) {next : Act → World → Prop} {Q : Exit → Act → World → Prop} {c : Call} (ho : o.op = .call c)
    {callK : FuncId → List Value → St → Option (Value × St)} (hcall : CallsOk P callK) {g : FuncId} {args : List Value} {v : Value} (hc : callee ρ c = some (g, args)) (hr : callK g args s = some (v, s'))
    (hk : ∀ ι' v' w', VR ι' v v' → Post ι s w ι' s' w' → next (ac.put o.dst v') w') : o.wp P ac w next Q := by
  obtain ⟨ws, h1, h2⟩ := callee_run (a := ⟨.leaf, 0, []⟩) (w := w) hE hρ ho hc
  unfold Oper.wp
  rcases hcall _ _ _ _ _ hr ι w ws hs h1 with ⟨h3, h4⟩ | ⟨v', w', ι', h3, h4, h5⟩
  · rw [h2, h3, Oper.upon_enter]
    refine h4.mono ?_
    rintro e w' ⟨ι', v', rfl, h3, h4⟩
    exact hk ι' v' w' h3 h4
  · rw [h2, h3, Oper.upon_value]
    exact hk ι' v' w' h4 h5

end
end Go.Sh

namespace Go.Sh
open Go

variable [Sg : Sig]

/-! ### frames -/
omit Sg in
theorem Tr.patch {α : Type} (T H : Tr α) : ∀ (ms : List Nat), ∃ T' : Tr α, ∀ m, T'.get m = if m ∈ ms then H.get m else T.get m
  | [] => ⟨T, fun m => by simp⟩
  | x :: xs => by
    obtain ⟨T', h⟩ := Tr.patch T H xs
    cases hx : H.get x with
    | some o =>
      refine ⟨T'.set x o, fun m => ?_⟩
      rw [Tr.get_set, h]
      by_cases e : m = x
      · subst e; simp [hx]
      · simp [e]
    | none =>
      refine ⟨T'.del x, fun m => ?_⟩
      rw [Tr.get_del, h]
      by_cases e : m = x
      · subst e; simp [hx]
      · simp [e]

section
variable {ι ι' ι0 : Inj} {s0 s X X' H H' : St} {w w' w0 : World}

theorem Post.frameH (hp : Post ι X w ι' X' w') (hH : SR ι H w) (hsub : ∀ m o, X.heap.get m = some o → H.heap.get m = some o)
    (hn : X.next = H.next) (hn' : H'.next = X'.next) (M : Nat → Prop) (hget1 : ∀ m, M m → H'.heap.get m = H.heap.get m) (hget2 : ∀ m, ¬ M m → H'.heap.get m = X'.heap.get m)
    (hM : ∀ m, M m → X.heap.get m = none) : Post ι H w ι' H' w' := by
  have hold : ∀ {m o ni}, H.heap.get m = some o → ι' m = some ni → ι m = some ni := by
    intro m o ni hm hni
    obtain ⟨ni', h1, _⟩ := hH.obj m o hm
    have := hp.ext m ni' h1
    rw [hni] at this; cases this; exact h1
  have cross : ∀ {m k p q mi ki}, M m → H.heap.get m = some p → ¬ M k → X'.heap.get k = some q → (p.wr = true ∨ q.wr = true) → ι' m = some mi → ι' k = some ki → mi.blk ≠ ki.blk := by
    intro m k p q mi ki hMm hm hMk hk hwr hmi hki e
    have hmi' := hold hm hmi
    obtain ⟨mi2, h1, h2⟩ := hH.obj m p hm
    rw [hmi'] at h1; cases h1
    have hb := h2.blk
    have fin : ∀ j r ji, X.heap.get j = some r → (r.wr = true ∨ p.wr = true) → ι j = some ji → ji.blk = ki.blk → False := by
      intro j r ji hj hw hji heq
      have := hH.inj j m r p ji mi (hsub j r hj) hm hw hji hmi' (by rw [heq, e])
      subst this
      rw [hM j hMm] at hj; cases hj
    rcases hwr with hwr | hwr
    · rcases hp.blk k q ki hk hki with hge | ⟨j, r, ji, hj, hji, heq⟩
      · omega
      · exact fin j r ji hj (.inr hwr) hji heq
    · rcases hp.wr k q ki hk hwr hki with hge | ⟨j, r, ji, hj, hrw, hji, heq⟩
      · omega
      · exact fin j r ji hj (.inl hrw) hji heq
  refine ⟨hp.ext, ⟨?_, ?_, ?_⟩, hp.size, ?_, ?_, hp.calm, ?_, ?_, ?_, ?_⟩
  · intro m o hm
    by_cases hMm : M m
    · rw [hget1 m hMm] at hm
      obtain ⟨ni, h1, h2⟩ := hH.obj m o hm
      refine ⟨ni, hp.ext m ni h1, h2.mono hp.ext (hp.frame ni.blk h2.blk ?_)⟩
      intro n o' ni' hn1 hwr hni' e
      have := hH.inj n m o' o ni' ni (hsub n o' hn1) hm (.inl hwr) hni' h1 e
      subst this
      rw [hM n hMm] at hn1; cases hn1
    · rw [hget2 m hMm] at hm
      exact hp.rel.obj m o hm
  · intro m k p q mi ki hm hk hwr hmi hki e
    by_cases hMm : M m
    · rw [hget1 m hMm] at hm
      by_cases hMk : M k
      · rw [hget1 k hMk] at hk
        exact hH.inj m k p q mi ki hm hk hwr (hold hm hmi) (hold hk hki) e
      · rw [hget2 k hMk] at hk
        exact absurd e (cross hMm hm hMk hk hwr hmi hki)
    · rw [hget2 m hMm] at hm
      by_cases hMk : M k
      · rw [hget1 k hMk] at hk
        exact absurd e.symm (cross hMk hk hMm hm hwr.symm hki hmi)
      · rw [hget2 k hMk] at hk
        exact hp.rel.inj m k p q mi ki hm hk hwr hmi hki e
  · intro n ni hni
    rw [hn']; exact hp.rel.fresh n ni hni
  · intro b hb hf
    exact hp.frame b hb fun n o ni h1 h2 h3 => hf n o ni (hsub n o h1) h2 h3
  · intro m o ni hm ho hni
    by_cases hMm : M m
    · rw [hget1 m hMm] at hm
      exact .inr ⟨m, o, ni, hm, ho, hold hm hni, rfl⟩
    · rw [hget2 m hMm] at hm
      rcases hp.wr m o ni hm ho hni with hge | ⟨j, r, ji, hj, hr, hji, heq⟩
      · exact .inl hge
      · exact .inr ⟨j, r, ji, hsub j r hj, hr, hji, heq⟩
  · rw [← hn, hn']; exact hp.next
  · intro m o hm
    by_cases hMm : M m
    · rw [hget1 m hMm] at hm; exact .inl ⟨o, hm⟩
    · rw [hget2 m hMm] at hm
      rcases hp.live m o hm with ⟨p, h1⟩ | hge
      · exact .inl ⟨p, hsub m p h1⟩
      · rw [← hn]; exact .inr hge
  · intro m ni hm
    rcases hp.newn m ni hm with h1 | hge
    · exact .inl h1
    · rw [← hn]; exact .inr hge
  · intro m o ni hm hni
    by_cases hMm : M m
    · rw [hget1 m hMm] at hm
      exact .inr ⟨m, o, ni, hm, hold hm hni, rfl⟩
    · rw [hget2 m hMm] at hm
      rcases hp.blk m o ni hm hni with hge | ⟨j, r, ji, hj, hji, heq⟩
      · exact .inl hge
      · exact .inr ⟨j, r, ji, hsub j r hj, hji, heq⟩

theorem Post.room (h : SR ι s w) (n : Nat) (hw : w'.heap = w.heap) (hc : Calm w w') : Post ι s w ι { s with next := s.next + n } w' where
  ext := Ext.refl ι
  rel := (h.of_heap hw).sub (fun _ _ h => h) (Nat.le_add_right _ _)
  size := by rw [hw]; exact Nat.le_refl _
  frame := fun _ _ _ => by rw [hw]
  wr := fun n o ni hn ho hni => .inr ⟨n, o, ni, hn, ho, hni, rfl⟩
  calm := hc
  next := Nat.le_add_right _ _
  live := fun n o h => .inl ⟨o, h⟩
  newn := fun _ _ h => .inl h
  blk := fun n o ni hn hni => .inr ⟨n, o, ni, hn, hni, rfl⟩

theorem Post.pushAt (h : Post ι0 s0 w0 ι H w) {nm : Nat} {o : AObj} {ni : NI} {ob : Obj} (h0 : s0.next ≤ nm) (h1 : nm < H.next) (hι : ι nm = none) (hblk : ni.blk = w.heap.size)
    (hor : OR (upd ι nm ni) (wpush w ob) ni o) (hz : ∀ off, fzObj (some ob) off = false) : Post ι0 s0 w0 (upd ι nm ni) { H with heap := H.heap.set nm o } (wpush w ob) := by
  have hsz := h.size
  refine ⟨h.ext.trans (Ext.upd ni hι), h.rel.push hι hblk (Nat.le_refl _) h1 hor, by rw [wpush_size]; omega, ?_, ?_, ⟨h.calm.os, h.calm.output, fun a => (wpush_frozen hz a).trans (h.calm.froz a)⟩, h.next, ?_, ?_, ?_⟩
  · intro b hb hf
    rw [wpush_get, if_neg (by omega)]
    exact h.frame b hb hf
  · intro m p mi hm hp hmi
    simp only [Tr.get_set] at hm
    by_cases e : m = nm
    · subst e
      rw [upd_same] at hmi; cases hmi
      exact .inl (by omega)
    · rw [if_neg e] at hm
      rw [upd_ne _ _ e] at hmi
      exact h.wr m p mi hm hp hmi
  · intro m p hm
    simp only [Tr.get_set] at hm
    by_cases e : m = nm
    · exact .inr (by omega)
    · rw [if_neg e] at hm; exact h.live m p hm
  · intro m mi hm
    by_cases e : m = nm
    · exact .inr (by omega)
    · rw [upd_ne _ _ e] at hm; exact h.newn m mi hm
  · intro m p mi hm hmi
    simp only [Tr.get_set] at hm
    by_cases e : m = nm
    · subst e
      rw [upd_same] at hmi; cases hmi
      exact .inl (by omega)
    · rw [if_neg e] at hm
      rw [upd_ne _ _ e] at hmi
      exact h.blk m p mi hm hmi

theorem Post.same (h : Post ι0 s0 w0 ι H w) (hget : ∀ m, H'.heap.get m = H.heap.get m) (hn : H'.next = H.next) : Post ι0 s0 w0 ι H' w where
  ext := h.ext
  rel := h.rel.sub (fun m o => by rw [hget]; exact id) (Nat.le_of_eq hn.symm)
  size := h.size
  frame := h.frame
  wr := fun n o ni hm => h.wr n o ni (by rw [← hget]; exact hm)
  calm := h.calm
  next := by rw [hn]; exact h.next
  live := fun n o hm => h.live n o (by rw [← hget]; exact hm)
  newn := h.newn
  blk := fun n o ni hm => h.blk n o ni (by rw [← hget]; exact hm)

end

/-! ### plans -/
def isCh : Cls → Bool
  | .chain => true
  | .call => true
  | _ => false

def Closed (ops : Array Oper) (L : Nat → Prop) : Prop := ∀ i o, L i → ops[i]? = some o → ∀ e ∈ o.after, Region.binds .any e = true → L e.on

/-- i is listed before j. -/
def Bef (ops : Array Oper) (i j : Nat) : Prop := ∀ (L : Nat → Prop), Closed ops L → ∀ oj, ops[j]? = some oj → (∀ e ∈ oj.after, Region.binds .any e = true → L e.on) → L i

structure Two (E : Env) (ops : Array Oper) (x y : PStep) (ox oy : Oper) : Prop where
  ne : x.i ≠ y.i
  dst : ∀ t, ox.dst = some t → oy.dst ≠ some t
  see : ∀ t, ox.dst = some t → t ∈ oy.looksAt ops → Bef ops x.i y.i
  seen : ∀ t, oy.dst = some t → t ∈ ox.looksAt ops → Bef ops x.i y.i ∧ cls E ox.op ≠ .read
  chain : isCh (cls E ox.op) = true → isCh (cls E oy.op) = true → Bef ops x.i y.i
  made : cls E ox.op = .alloc → (cls E oy.op = .read ∨ isCh (cls E oy.op) = true) → Bef ops x.i y.i
  after : isCh (cls E ox.op) = true → cls E oy.op = .read → Bef ops x.i y.i
  again : cls E ox.op = .read → isCh (cls E oy.op) = true → Bef ops x.i y.i ∨ x.i ∈ y.again

structure PlanFacts (E : Env) (ops : Array Oper) (pl : List PStep) : Prop where
  len : pl.length = ops.size
  all : ∀ i, i < ops.size → ∃ (p : Nat) (x : PStep), pl[p]? = some x ∧ x.i = i
  one : ∀ (p : Nat) (x : PStep) (o : Oper), pl[p]? = some x → ops[x.i]? = some o → cls E o.op ≠ .dfr ∧ (cls E o.op = .read → ∀ t, o.dst = some t → t ∉ o.looksAt ops)
  two : ∀ (p r : Nat) (x y : PStep) (ox oy : Oper), p < r → pl[p]? = some x → pl[r]? = some y → ops[x.i]? = some ox → ops[y.i]? = some oy → Two E ops x y ox oy
  down : ∀ (j : Nat) (o : Oper), ops[j]? = some o → ∀ e ∈ o.after, Region.binds .any e = true → e.on < j

abbrev CallK := FuncId → List Value → St → Option (Value × St)

structure Tra (E : Env) (callK : CallK) (ops : List Oper) (base : Nat) (pl : List PStep) (A : Nat → AA) (C : Nat → St) : Prop where
  step : ∀ (p : Nat) (x : PStep), pl[p]? = some x → ∃ o, ops[x.i]? = some o ∧ step1 E callK ops o (some (base + x.i)) (A p) (C p) = some (A (p + 1), C (p + 1)) ∧ againOk E ops (A (p + 1)) (C (p + 1)) x.again = true

omit Sg in
theorem runPlan_tra {E : Env} {callK : CallK} {ops : List Oper} {base : Nat} : ∀ {pl : List PStep} {a a' : AA} {s s' : St}, runPlan E callK ops base pl a s = some (a', s') →
    ∃ A C, A 0 = a ∧ C 0 = s ∧ A pl.length = a' ∧ C pl.length = s' ∧ Tra E callK ops base pl A C
  | [], a, a', s, s', h => by
    simp only [runPlan] at h; cases h
    exact ⟨fun _ => a, fun _ => s, rfl, rfl, rfl, rfl, ⟨fun p x hx => by simp at hx⟩⟩
  | x :: rest, a, a', s, s', h => by
    simp only [runPlan] at h
    cases ho : ops[x.i]? with
    | none => rw [ho] at h; cases h
    | some o =>
      rw [ho] at h; simp only at h
      cases hs : step1 E callK ops o (some (base + x.i)) a s with
      | none => rw [hs] at h; cases h
      | some r =>
        obtain ⟨a1, s1⟩ := r
        rw [hs] at h; simp only at h
        cases hg : againOk E ops a1 s1 x.again with
        | false => rw [hg] at h; cases h
        | true =>
          rw [hg] at h; simp only [cond_true] at h
          obtain ⟨A, C, h1, h2, h3, h4, h5⟩ := runPlan_tra h
          refine ⟨fun | 0 => a | p + 1 => A p, fun | 0 => s | p + 1 => C p, rfl, rfl, h3, h4, ⟨fun p y hy => ?_⟩⟩
          cases p with
          | zero =>
            simp only [List.getElem?_cons_zero, Option.some.injEq] at hy
            subst hy
            exact ⟨o, ho, by simp only [h1, h2]; exact hs, by simp only [h1, h2]; exact hg⟩
          | succ p =>
            simp only [List.getElem?_cons_succ] at hy
            exact h5.step p y hy

omit Sg in
/-- What one operation came to. -/
theorem step1_cases {E : Env} {callK : CallK} {ops : List Oper} {o : Oper} {nm : Nat} {a a' : AA} {s s' : St} (h : step1 E callK ops o (some nm) a s = some (a', s')) (hd : cls E o.op ≠ .dfr) :
    ∃ v, a.put o.dst v = some a' ∧ ((wantedA ops o a = false ∧ v = undef ∧ s' = s) ∨ (wantedA ops o a = true ∧
      ((cls E o.op = .pure ∧ apure E a.eval o = some v ∧ s' = s) ∨ (cls E o.op = .read ∧ aread E a.eval o s = some v ∧ s' = s) ∨
       (cls E o.op = .alloc ∧ ∃ ob f, aalloc E a.eval o = some (ob, f) ∧ v = f nm ∧ s' = { s with heap := s.heap.set nm ob }) ∨
       (cls E o.op = .chain ∧ achain E a.eval o s = some (v, s')) ∨
       (cls E o.op = .call ∧ ∃ c g args, o.op = .call c ∧ callee a.eval c = some (g, args) ∧ callK g args s = some (v, s'))))) := by
  unfold step1 at h
  cases hw : wantedA ops o a with
  | false =>
    rw [hw] at h; simp only [cond_false] at h
    cases hp : a.put o.dst undef with
    | none => rw [hp] at h; cases h
    | some a1 => rw [hp] at h; cases h; exact ⟨_, hp, .inl ⟨rfl, rfl, rfl⟩⟩
  | true =>
    rw [hw] at h; simp only [cond_true] at h
    cases hc : cls E o.op <;> rw [hc] at h <;> simp only at h
    case pure =>
      cases hv : apure E a.eval o with
      | none => rw [hv] at h; cases h
      | some v =>
        rw [hv] at h; simp only at h
        cases hp : a.put o.dst v with
        | none => rw [hp] at h; cases h
        | some a1 => rw [hp] at h; cases h; exact ⟨_, hp, .inr ⟨rfl, .inl ⟨rfl, rfl, rfl⟩⟩⟩
    case read =>
      cases hv : aread E a.eval o s with
      | none => rw [hv] at h; cases h
      | some v =>
        rw [hv] at h; simp only at h
        cases hp : a.put o.dst v with
        | none => rw [hp] at h; cases h
        | some a1 => rw [hp] at h; cases h; exact ⟨_, hp, .inr ⟨rfl, .inr (.inl ⟨rfl, rfl, rfl⟩)⟩⟩
    case alloc =>
      cases hv : aalloc E a.eval o with
      | none => rw [hv] at h; cases h
      | some r =>
        obtain ⟨ob, f⟩ := r
        rw [hv] at h; simp only at h
        cases hp : a.put o.dst (f nm) with
        | none => rw [hp] at h; cases h
        | some a1 => rw [hp] at h; cases h; exact ⟨_, hp, .inr ⟨rfl, .inr (.inr (.inl ⟨rfl, ob, f, rfl, rfl, rfl⟩))⟩⟩
    case chain =>
      cases hv : achain E a.eval o s with
      | none => rw [hv] at h; cases h
      | some r =>
        obtain ⟨v, s1⟩ := r
        rw [hv] at h; simp only at h
        cases hp : a.put o.dst v with
        | none => rw [hp] at h; cases h
        | some a1 => rw [hp] at h; cases h; exact ⟨_, hp, .inr ⟨rfl, .inr (.inr (.inr (.inl ⟨rfl, rfl⟩)))⟩⟩
    case call =>
      cases ho : o.op <;> rw [ho] at h <;> simp only at h <;> (try (cases h; done))
      rename_i c
      cases hcl : callee a.eval c with
      | none => rw [hcl] at h; cases h
      | some r =>
        obtain ⟨g, args⟩ := r
        rw [hcl] at h; simp only at h
        cases hv : callK g args s with
        | none => rw [hv] at h; cases h
        | some r =>
          obtain ⟨v, s1⟩ := r
          rw [hv] at h; simp only at h
          cases hp : a.put o.dst v with
          | none => rw [hp] at h; cases h
          | some a1 => rw [hp] at h; cases h; exact ⟨_, hp, .inr ⟨rfl, .inr (.inr (.inr (.inr ⟨rfl, c, g, args, rfl, hcl, hv⟩)))⟩⟩
    case dfr => exact absurd hc hd
    case bad => cases h

end Go.Sh

namespace Go.Sh
open Go

variable [Sg : Sig]

deriving instance DecidableEq for Cls

def made (E : Env) (ops : Array Oper) (A : Nat → AA) (r : Nat) (o : Oper) : Option AObj :=
  if cls E o.op = .alloc ∧ wantedA ops.toList o (A r) = true then (aalloc E (A r).eval o).map (·.1) else none

section
variable {E : Env} {P : Program} {ops : Array Oper} {pl : List PStep} {A : Nat → AA} {C : Nat → St} {callK : CallK} {base : Nat}
variable (hT : Tra E callK ops.toList base pl A C) (hF : PlanFacts E ops pl)

abbrev Lst (listed : Array Bool) (i : Nat) : Prop := listed.getD i false = true

omit Sg in
include hT hF in
theorem tra_at {p : Nat} {x : PStep} {o : Oper} (hx : pl[p]? = some x) (ho : ops[x.i]? = some o) :
    ∃ v, (A p).put o.dst v = some (A (p + 1)) ∧ ((wantedA ops.toList o (A p) = false ∧ v = undef ∧ C (p + 1) = C p) ∨ (wantedA ops.toList o (A p) = true ∧
      ((cls E o.op = .pure ∧ apure E (A p).eval o = some v ∧ C (p + 1) = C p) ∨ (cls E o.op = .read ∧ aread E (A p).eval o (C p) = some v ∧ C (p + 1) = C p) ∨
       (cls E o.op = .alloc ∧ ∃ ob f, aalloc E (A p).eval o = some (ob, f) ∧ v = f (base + x.i) ∧ C (p + 1) = { C p with heap := (C p).heap.set (base + x.i) ob }) ∨
       (cls E o.op = .chain ∧ achain E (A p).eval o (C p) = some (v, C (p + 1))) ∨
       (cls E o.op = .call ∧ ∃ c g args, o.op = .call c ∧ callee (A p).eval c = some (g, args) ∧ callK g args (C p) = some (v, C (p + 1)))))) := by
  obtain ⟨o', h1, h2, _⟩ := hT.step p x hx
  have : o' = o := by
    have : ops.toList[x.i]? = some o := by simpa using ho
    rw [this] at h1; cases h1; rfl
  subst this
  exact step1_cases h2 (hF.one p x o' hx ho).1

omit Sg in
include hT in
theorem tra_op {p : Nat} {x : PStep} (hx : pl[p]? = some x) : ∃ o, ops[x.i]? = some o := by
  obtain ⟨o, h1, _⟩ := hT.step p x hx
  exact ⟨o, by simpa using h1⟩

omit Sg in
omit hT hF in
theorem pl_get {p : Nat} (hp : p < pl.length) : ∃ x, pl[p]? = some x := ⟨pl[p], by simp [hp]⟩

omit Sg in
include hT hF in
theorem tra_n : ∀ p, p ≤ pl.length → (A p).n = (A 0).n ∧ (A p).df = (A 0).df := by
  intro p
  induction p with
  | zero => intro _; exact ⟨rfl, rfl⟩
  | succ p ih =>
    intro hp
    obtain ⟨x, hx⟩ := pl_get (pl := pl) (p := p) (by omega)
    obtain ⟨o, ho⟩ := tra_op hT hx
    obtain ⟨v, hv, _⟩ := tra_at hT hF hx ho
    obtain ⟨h1, h2, _⟩ := AA.look_put hv
    obtain ⟨h3, h4⟩ := ih (by omega)
    exact ⟨h1.trans h3, h2.trans h4⟩

omit Sg in
include hT hF in
theorem tra_look {t : Nat} {p : Nat} : ∀ p', p ≤ p' → p' ≤ pl.length → (∀ r x o, p ≤ r → r < p' → pl[r]? = some x → ops[x.i]? = some o → o.dst ≠ some t) → (A p').look t = (A p).look t := by
  intro p'
  induction p' with
  | zero => intro h _ _; have : p = 0 := by omega
            rw [this]
  | succ q ih =>
    intro h hq hn
    by_cases e : p = q + 1
    · rw [e]
    · obtain ⟨x, hx⟩ := pl_get (pl := pl) (p := q) (by omega)
      obtain ⟨o, ho⟩ := tra_op hT hx
      obtain ⟨v, hv, _⟩ := tra_at hT hF hx ho
      obtain ⟨_, _, _, h4⟩ := AA.look_put hv
      rw [h4, if_neg (hn q x o (by omega) (by omega) hx ho)]
      exact ih (by omega) (by omega) fun r x o h1 h2 => hn r x o h1 (by omega)

omit Sg in
include hF in
theorem uniq {r r' : Nat} {x x' : PStep} {o o' : Oper} {t : Nat} (hx : pl[r]? = some x) (hx' : pl[r']? = some x') (ho : ops[x.i]? = some o) (ho' : ops[x'.i]? = some o') (hd : o.dst = some t) (hd' : o'.dst = some t) : r = r' := by
  rcases Nat.lt_trichotomy r r' with h | h | h
  · exact absurd hd' ((hF.two r r' x x' o o' h hx hx' ho ho').dst t hd)
  · exact h
  · exact absurd hd ((hF.two r' r x' x o' o h hx' hx ho' ho).dst t hd')

omit Sg in
include hF in
theorem uniqi {r r' : Nat} {x x' : PStep} {o o' : Oper} (hx : pl[r]? = some x) (hx' : pl[r']? = some x') (ho : ops[x.i]? = some o) (ho' : ops[x'.i]? = some o') (hd : x.i = x'.i) : r = r' := by
  rcases Nat.lt_trichotomy r r' with h | h | h
  · exact absurd hd ((hF.two r r' x x' o o' h hx hx' ho ho').ne)
  · exact h
  · exact absurd hd.symm ((hF.two r' r x' x o' o h hx' hx ho' ho).ne)

omit Sg in
/-- What an operation sees in the end. -/
theorem tra_end {r : Nat} {x : PStep} {o : Oper} {t : Nat} (hT : Tra E callK ops.toList base pl A C) (hF : PlanFacts E ops pl) (hx : pl[r]? = some x) (ho : ops[x.i]? = some o) (hd : o.dst = some t) {p : Nat} (hp : r < p) (hp' : p ≤ pl.length) : (A pl.length).look t = (A p).look t := by
  refine tra_look hT hF pl.length hp' (Nat.le_refl _) fun r' x' o' h1 h2 hx' ho' hd' => ?_
  have := uniq hF hx hx' ho ho' hd hd'
  omega

omit Sg in
theorem tra_start {r : Nat} {x : PStep} {o : Oper} {t : Nat} (hT : Tra E callK ops.toList base pl A C) (hF : PlanFacts E ops pl) (hx : pl[r]? = some x) (ho : ops[x.i]? = some o) (hd : o.dst = some t) {p : Nat} (hp : p ≤ r) (hp' : p ≤ pl.length) : (A p).look t = (A 0).look t := by
  refine tra_look hT hF p (Nat.zero_le _) hp' fun r' x' o' h1 h2 hx' ho' hd' => ?_
  have := uniq hF hx hx' ho ho' hd hd'
  omega

include hT hF in
omit Sg in
/-- Between two operations that may write, the heap stays but for what is made. -/
theorem tra_heap {q : Nat} : ∀ p, q ≤ p → p ≤ pl.length → (∀ r x o, q ≤ r → r < p → pl[r]? = some x → ops[x.i]? = some o → isCh (cls E o.op) = false) →
    (C p).next = (C q).next ∧ ∀ m, (∀ r x o, q ≤ r → r < p → pl[r]? = some x → ops[x.i]? = some o → cls E o.op = .alloc → m ≠ base + x.i) → (C p).heap.get m = (C q).heap.get m := by
  intro p
  induction p with
  | zero => intro h _ _; have : q = 0 := by omega
            rw [this]; exact ⟨rfl, fun _ _ => rfl⟩
  | succ p ih =>
    intro h hp hn
    by_cases e : q = p + 1
    · rw [e]; exact ⟨rfl, fun _ _ => rfl⟩
    · obtain ⟨h1, h2⟩ := ih (by omega) (by omega) fun r x o h1 h2 => hn r x o h1 (by omega)
      obtain ⟨x, hx⟩ := pl_get (pl := pl) (p := p) (by omega)
      obtain ⟨o, ho⟩ := tra_op hT hx
      have hnc := hn p x o (by omega) (by omega) hx ho
      obtain ⟨v, _, hc⟩ := tra_at hT hF hx ho
      have keep : C (p + 1) = C p → (C (p + 1)).next = (C q).next ∧ ∀ m, (∀ r x o, q ≤ r → r < p + 1 → pl[r]? = some x → ops[x.i]? = some o → cls E o.op = .alloc → m ≠ base + x.i) → (C (p + 1)).heap.get m = (C q).heap.get m := by
        intro e'
        rw [e']
        exact ⟨h1, fun m hm => h2 m fun r x o a b => hm r x o a (by omega)⟩
      rcases hc with ⟨_, _, hc⟩ | ⟨_, ⟨_, _, hc⟩ | ⟨_, _, hc⟩ | ⟨hcl, ob, f, _, _, hc⟩ | ⟨hc, _⟩ | ⟨hc, _⟩⟩
      · exact keep hc
      · exact keep hc
      · exact keep hc
      · rw [hc]
        refine ⟨h1, fun m hm => ?_⟩
        have := hm p x o (by omega) (by omega) hx ho hcl
        simp only [Tr.get_set, if_neg this]
        exact h2 m fun r x o a b => hm r x o a (by omega)
      · rw [hc] at hnc; cases hnc
      · rw [hc] at hnc; cases hnc

include hT hF in
omit Sg in
/-- What is made where it is made. -/
theorem tra_made {p : Nat} {x : PStep} {o : Oper} (hx : pl[p]? = some x) (ho : ops[x.i]? = some o) (hn : isCh (cls E o.op) = false) (h0 : (C p).heap.get (base + x.i) = none) :
    (C (p + 1)).heap.get (base + x.i) = made E ops A p o := by
  obtain ⟨v, _, hc⟩ := tra_at hT hF hx ho
  unfold made
  rcases hc with ⟨hw, _, hc⟩ | ⟨hw, ⟨hcl, _, hc⟩ | ⟨hcl, _, hc⟩ | ⟨hcl, ob, f, ha, _, hc⟩ | ⟨hc, _⟩ | ⟨hc, _⟩⟩
  · rw [hc, if_neg (by simp [hw])]; exact h0
  · rw [hc, if_neg (by simp [hcl])]; exact h0
  · rw [hc, if_neg (by simp [hcl])]; exact h0
  · rw [hc, if_pos ⟨hcl, hw⟩, ha]; simp [Tr.get_set]
  · rw [hc] at hn; cases hn
  · rw [hc] at hn; cases hn

end

/-! ### what stands while a region runs -/
structure Stands (E : Env) (ops : Array Oper) (pl : List PStep) (A : Nat → AA) (C : Nat → St) (base : Nat) (ι0 : Inj) (s0 : St) (w0 : World) (listed : Array Bool) (ac : Act) (w : World) (q : Nat) (ι : Inj) (aE : AA) (H : St) : Prop where
  size : listed.size = ops.size
  closed : Closed ops (Lst listed)
  qle : q ≤ pl.length
  qc : q = 0 ∨ ∃ x o, pl[q - 1]? = some x ∧ ops[x.i]? = some o ∧ isCh (cls E o.op) = true
  ch : ∀ (r : Nat) (x : PStep) (o : Oper), pl[r]? = some x → ops[x.i]? = some o → isCh (cls E o.op) = true → (Lst listed x.i ↔ r < q)
  al : ∀ (r : Nat) (x : PStep) (o : Oper), pl[r]? = some x → ops[x.i]? = some o → cls E o.op = .alloc → r < q → Lst listed x.i
  ar : AR ι aE ac
  an : aE.n = (A 0).n
  ad : aE.df = (A 0).df
  tl : ∀ (r : Nat) (x : PStep) (o : Oper) (t : Nat), pl[r]? = some x → ops[x.i]? = some o → o.dst = some t → Lst listed x.i → aE.look t = (A pl.length).look t
  tu : ∀ t, (∀ (r : Nat) (x : PStep) (o : Oper), pl[r]? = some x → ops[x.i]? = some o → Lst listed x.i → o.dst ≠ some t) → aE.look t = (A 0).look t
  post : Post ι0 s0 w0 ι H w
  low : s0.next ≤ base
  next : H.next = (C q).next
  room : base + ops.size ≤ (C q).next
  un : ∀ (r : Nat) (x : PStep), pl[r]? = some x → ¬ Lst listed x.i → ι (base + x.i) = none
  g1 : ∀ (r : Nat) (x : PStep) (o : Oper), q ≤ r → pl[r]? = some x → ops[x.i]? = some o → H.heap.get (base + x.i) = if Lst listed x.i then made E ops A r o else none
  g2 : ∀ m, (∀ (r : Nat) (x : PStep), q ≤ r → pl[r]? = some x → m ≠ base + x.i) → H.heap.get m = (C q).heap.get m
  g3 : ∀ (r : Nat) (x : PStep), q ≤ r → pl[r]? = some x → (C q).heap.get (base + x.i) = none

omit Sg in
theorem lst_set {listed : Array Bool} {i j : Nat} (hi : i < listed.size) : Lst (listed.setIfInBounds i true) j ↔ (j = i ∨ Lst listed j) := by
  unfold Lst
  by_cases e : i = j
  · subst e; simp [hi]
  · rw [getD_set_ne false e]
    constructor
    · exact .inr
    · rintro (h | h)
      · exact absurd h.symm e
      · exact h

section
variable {E : Env} {P : Program} {ops : Array Oper} {pl : List PStep} {A : Nat → AA} {C : Nat → St} {callK : CallK} {base : Nat}
variable {ι0 ι : Inj} {s0 H : St} {w0 w : World} {listed : Array Bool} {ac : Act} {q : Nat} {aE : AA}
variable (hT : Tra E callK ops.toList base pl A C) (hF : PlanFacts E ops pl) (hI : Stands E ops pl A C base ι0 s0 w0 listed ac w q ι aE H)

theorem lst_edges {i : Nat} {o : Oper} (hI : Stands E ops pl A C base ι0 s0 w0 listed ac w q ι aE H) (ho : ops[i]? = some o) (h : Lst listed i) : ∀ e ∈ o.after, Region.binds .any e = true → Lst listed e.on := hI.closed i o h ho

/-- An operation that is to run sees what the plan's sees. -/
theorem sees (hT : Tra E callK ops.toList base pl A C) (hF : PlanFacts E ops pl) (hI : Stands E ops pl A C base ι0 s0 w0 listed ac w q ι aE H) {p : Nat} {x : PStep} {o : Oper} (hx : pl[p]? = some x) (ho : ops[x.i]? = some o) (hnl : ¬ Lst listed x.i) (hr : ∀ e ∈ o.after, Region.binds .any e = true → Lst listed e.on) :
    ∀ t ∈ o.looksAt ops, aE.look t = (A p).look t := by
  intro t ht
  have hp : p < pl.length := (List.getElem?_eq_some_iff.1 hx).1
  have unl : ∀ {r : Nat} {y : PStep} {oy : Oper}, pl[r]? = some y → ops[y.i]? = some oy → oy.dst = some t → ¬ Lst listed y.i → aE.look t = (A 0).look t := by
    intro r y oy hy hoy hd hn
    refine hI.tu t fun r' y' oy' hy' hoy' hl hd' => ?_
    have := uniq hF hy hy' hoy hoy' hd hd'
    subst this
    rw [hy] at hy'; cases hy'
    exact hn hl
  by_cases h : ∃ (r : Nat) (y : PStep) (oy : Oper), pl[r]? = some y ∧ ops[y.i]? = some oy ∧ oy.dst = some t
  · obtain ⟨r, y, oy, hy, hoy, hd⟩ := h
    rcases Nat.lt_trichotomy r p with hlt | heq | hgt
    · have hb := (hF.two r p y x oy o hlt hy hx hoy ho).see t hd ht
      have hl : Lst listed y.i := hb _ hI.closed o ho hr
      rw [hI.tl r y oy t hy hoy hd hl]
      exact tra_end hT hF hy hoy hd hlt (by omega)
    · subst heq
      rw [hx] at hy; cases hy
      rw [unl hx hoy hd hnl]
      exact (tra_start hT hF hx hoy hd (Nat.le_refl _) (by omega)).symm
    · have hb := ((hF.two p r x y o oy hgt hx hy ho hoy).seen t hd ht).1
      have hl : ¬ Lst listed y.i := fun hl => hnl (hb _ hI.closed oy hoy (lst_edges hI hoy hl))
      rw [unl hy hoy hd hl]
      exact (tra_start hT hF hy hoy hd (by omega) (by omega)).symm
  · rw [hI.tu t fun r y oy hy hoy _ hd => h ⟨r, y, oy, hy, hoy, hd⟩]
    exact (tra_look hT hF p (Nat.zero_le _) (by omega) fun r y oy _ _ hy hoy hd => h ⟨r, y, oy, hy, hoy, hd⟩).symm

omit Sg in
theorem eval_same {a b : AA} {o : Oper} (h : ∀ t ∈ o.looksAt ops, a.look t = b.look t) : ∀ x ∈ o.op.operands, a.eval x = b.eval x := by
  intro x hx
  cases x with
  | tmp t =>
    simp only [AA.eval]
    rw [h t]
    unfold Oper.looksAt
    refine List.mem_append.2 (.inl (List.mem_filterMap.2 ⟨.tmp t, by simpa using hx, rfl⟩))
  | _ => rfl

omit Sg in
theorem wanted_same {a b : AA} {o : Oper} (hn : a.n = b.n) (h : ∀ t ∈ o.looksAt ops, a.look t = b.look t) : wantedA ops.toList o a = wantedA ops.toList o b := by
  unfold wantedA
  cases hg : o.guard with
  | none => rfl
  | some gw =>
    obtain ⟨j, want⟩ := gw
    simp only
    cases hj : ops.toList[j]? with
    | none => rfl
    | some oj =>
      simp only
      cases hd : oj.dst with
      | none => rfl
      | some d =>
        simp only
        rw [hn, h d]
        unfold Oper.looksAt
        refine List.mem_append.2 (.inr ?_)
        simp only [hg]
        have : ops[j]? = some oj := by simpa using hj
        rw [this]
        simp [hd]

/-- Where nothing that may write stands between. -/
theorem inv_at (hT : Tra E callK ops.toList base pl A C) (hF : PlanFacts E ops pl) (hI : Stands E ops pl A C base ι0 s0 w0 listed ac w q ι aE H) {p : Nat} (hq : q ≤ p) (hp : p ≤ pl.length)
    (hch : ∀ r x o, q ≤ r → r < p → pl[r]? = some x → ops[x.i]? = some o → isCh (cls E o.op) = false)
    (hal : ∀ r x o, r < p → pl[r]? = some x → ops[x.i]? = some o → cls E o.op = .alloc → Lst listed x.i) :
    (C p).next = H.next ∧ (∀ r x, p ≤ r → pl[r]? = some x → (C p).heap.get (base + x.i) = none) ∧ (∀ m, (∀ r x, p ≤ r → pl[r]? = some x → m ≠ base + x.i) → (C p).heap.get m = H.heap.get m) := by
  obtain ⟨h1, h2⟩ := tra_heap hT hF p hq hp hch
  refine ⟨by rw [h1, hI.next], fun r x hr hx => ?_, fun m hm => ?_⟩
  · obtain ⟨o, ho⟩ := tra_op hT hx
    rw [h2, hI.g3 r x (by omega) hx]
    intro r' x' o' h3 h4 hx' ho' _ e
    have := uniqi hF hx hx' ho ho' (by omega)
    omega
  · by_cases hex : ∃ r x, q ≤ r ∧ r < p ∧ pl[r]? = some x ∧ m = base + x.i
    · obtain ⟨r, x, hr1, hr2, hx, rfl⟩ := hex
      obtain ⟨o, ho⟩ := tra_op hT hx
      have hno : ∀ r' x' o', r' ≠ r → pl[r']? = some x' → ops[x'.i]? = some o' → base + x.i ≠ base + x'.i := by
        intro r' x' o' hne hx' ho' e
        exact hne (uniqi hF hx' hx ho' ho (by omega))
      have hcr := hch r x o hr1 hr2 hx ho
      obtain ⟨_, h4⟩ := tra_heap hT hF r hr1 (by omega) fun r' x' o' a b => hch r' x' o' a (by omega)
      obtain ⟨_, h5⟩ := tra_heap hT hF (q := r + 1) p (by omega) hp fun r' x' o' a b => hch r' x' o' (by omega) b
      rw [h5 _ fun r' x' o' a b hx' ho' _ => hno r' x' o' (by omega) hx' ho', tra_made hT hF hx ho hcr ?_, hI.g1 r x o hr1 hx ho]
      · by_cases hl : Lst listed x.i
        · rw [if_pos hl]
        · rw [if_neg hl]
          unfold made
          rw [if_neg]
          rintro ⟨hc, _⟩
          exact hl (hal r x o hr2 hx ho hc)
      · rw [h4 _ fun r' x' o' a b hx' ho' _ => hno r' x' o' (by omega) hx' ho']
        exact hI.g3 r x hr1 hx
    · rw [h2 m fun r x o a b hx ho _ e => hex ⟨r, x, a, b, hx, e⟩]
      refine (hI.g2 m fun r x hr hx e => ?_).symm
      by_cases hlt : r < p
      · exact hex ⟨r, x, hr, hlt, hx, e⟩
      · exact hm r x (by omega) hx e

end
end Go.Sh

namespace Go.Sh
open Go

variable [Sg : Sig]

omit Sg in
theorem put_of_n {a b a' : AA} {dst : Option Tmp} {v : Value} (h : a.put dst v = some a') (hn : b.n = a.n) : ∃ b', b.put dst v = some b' := by
  unfold AA.put at *
  cases dst with
  | none => exact ⟨_, rfl⟩
  | some d =>
    simp only at h ⊢
    rw [hn]
    cases hb : Nat.blt d a.n with
    | false => rw [hb] at h; cases h
    | true => exact ⟨_, rfl⟩

section
variable {E : Env} {P : Program} {ops : Array Oper} {pl : List PStep} {A : Nat → AA} {C : Nat → St} {callK : CallK} {base : Nat}
variable {ι0 ι ι' : Inj} {s0 H H' : St} {w0 w w' : World} {listed : Array Bool} {ac : Act} {q : Nat} {aE aE' : AA}

/-- The temporaries after an operation. -/
theorem stands_tmps (hT : Tra E callK ops.toList base pl A C) (hF : PlanFacts E ops pl) (hI : Stands E ops pl A C base ι0 s0 w0 listed ac w q ι aE H) {p : Nat} {x : PStep} {o : Oper} (hx : pl[p]? = some x) (ho : ops[x.i]? = some o)
    {v v' : Value} (hput : (A p).put o.dst v = some (A (p + 1))) (haE : aE.put o.dst v = some aE') (hxt : Ext ι ι') (hv : VR ι' v v') :
    AR ι' aE' (ac.put o.dst v') ∧ aE'.n = (A 0).n ∧ aE'.df = (A 0).df ∧
    (∀ (r : Nat) (y : PStep) (oy : Oper) (t : Nat), pl[r]? = some y → ops[y.i]? = some oy → oy.dst = some t → Lst (listed.setIfInBounds x.i true) y.i → aE'.look t = (A pl.length).look t) ∧
    (∀ t, (∀ (r : Nat) (y : PStep) (oy : Oper), pl[r]? = some y → ops[y.i]? = some oy → Lst (listed.setIfInBounds x.i true) y.i → oy.dst ≠ some t) → aE'.look t = (A 0).look t) := by
  have hp : p < pl.length := (List.getElem?_eq_some_iff.1 hx).1
  have hsz : x.i < listed.size := by rw [hI.size]; exact (Array.getElem?_eq_some_iff.1 ho).1
  obtain ⟨h1, h2, h3, h4⟩ := AA.look_put haE
  obtain ⟨_, _, _, h5⟩ := AA.look_put hput
  have own : ∀ t, o.dst = some t → aE'.look t = (A pl.length).look t := by
    intro t ht
    rw [h4, if_pos ht, tra_end hT hF hx ho ht (p := p + 1) (by omega) (by omega), h5, if_pos ht]
  refine ⟨(hI.ar.mono hxt).put haE hv, h1.trans hI.an, h2.trans hI.ad, ?_, ?_⟩
  · intro r y oy t hy hoy hd hl
    rw [lst_set hsz] at hl
    by_cases ht : o.dst = some t
    · exact own t ht
    · rw [h4, if_neg ht]
      rcases hl with hl | hl
      · have := uniqi hF hy hx hoy ho hl
        subst this
        rw [hx] at hy; cases hy
        rw [ho] at hoy; cases hoy
        exact absurd hd ht
      · exact hI.tl r y oy t hy hoy hd hl
  · intro t hn
    have ht : o.dst ≠ some t := hn p x o hx ho ((lst_set hsz).2 (.inl rfl))
    rw [h4, if_neg ht]
    exact hI.tu t fun r y oy hy hoy hl => hn r y oy hy hoy ((lst_set hsz).2 (.inr hl))

theorem closed_set (hI : Stands E ops pl A C base ι0 s0 w0 listed ac w q ι aE H) {i : Nat} {o : Oper} (ho : ops[i]? = some o) (hr : ∀ e ∈ o.after, Region.binds .any e = true → Lst listed e.on) : Closed ops (Lst (listed.setIfInBounds i true)) := by
  have hsz : i < listed.size := by rw [hI.size]; exact (Array.getElem?_eq_some_iff.1 ho).1
  intro j oj hl hoj e he hb
  rw [lst_set hsz] at hl ⊢
  rcases hl with rfl | hl
  · rw [ho] at hoj; cases hoj
    exact .inr (hr e he hb)
  · exact .inr (hI.closed j oj hl hoj e he hb)

/-- An operation that neither writes nor makes. -/
theorem stands_still (hT : Tra E callK ops.toList base pl A C) (hF : PlanFacts E ops pl) (hI : Stands E ops pl A C base ι0 s0 w0 listed ac w q ι aE H) {p : Nat} {x : PStep} {o : Oper} (hx : pl[p]? = some x) (ho : ops[x.i]? = some o)
    (hnl : ¬ Lst listed x.i) (hr : ∀ e ∈ o.after, Region.binds .any e = true → Lst listed e.on) (hc : isCh (cls E o.op) = false) (hm : made E ops A p o = none)
    {v v' : Value} (hput : (A p).put o.dst v = some (A (p + 1))) (haE : aE.put o.dst v = some aE') (hv : VR ι v v') :
    Stands E ops pl A C base ι0 s0 w0 (listed.setIfInBounds x.i true) (ac.put o.dst v') w q ι aE' H := by
  have hsz : x.i < listed.size := by rw [hI.size]; exact (Array.getElem?_eq_some_iff.1 ho).1
  obtain ⟨t1, t2, t3, t4, t5⟩ := stands_tmps hT hF hI hx ho hput haE (Ext.refl ι) hv
  refine ⟨by simp [hI.size], closed_set hI ho hr, hI.qle, hI.qc, ?_, ?_, t1, t2, t3, t4, t5, hI.post, hI.low, hI.next, hI.room, ?_, ?_, hI.g2, hI.g3⟩
  · intro r y oy hy hoy hcy
    rw [lst_set hsz, ← hI.ch r y oy hy hoy hcy]
    constructor
    · rintro (h | h)
      · have := uniqi hF hy hx hoy ho h
        subst this
        rw [hx] at hy; cases hy
        rw [ho] at hoy; cases hoy
        rw [hc] at hcy; cases hcy
      · exact h
    · exact .inr
  · intro r y oy hy hoy hcy hlt
    exact (lst_set hsz).2 (.inr (hI.al r y oy hy hoy hcy hlt))
  · intro r y hy hl
    exact hI.un r y hy fun h => hl ((lst_set hsz).2 (.inr h))
  · intro r y oy hq hy hoy
    rw [hI.g1 r y oy hq hy hoy]
    by_cases e : y.i = x.i
    · have := uniqi hF hy hx hoy ho e
      subst this
      rw [hx] at hy; cases hy
      rw [ho] at hoy; cases hoy
      rw [if_neg hnl, if_pos ((lst_set hsz).2 (.inl rfl)), hm]
    · have : Lst (listed.setIfInBounds x.i true) y.i ↔ Lst listed y.i := by
        rw [lst_set hsz]; simp [e]
      by_cases hl : Lst listed y.i
      · rw [if_pos hl, if_pos (this.2 hl)]
      · rw [if_neg hl, if_neg (fun h => hl (this.1 h))]

/-- An operation that makes something. -/
theorem stands_alloc (hT : Tra E callK ops.toList base pl A C) (hF : PlanFacts E ops pl) (hI : Stands E ops pl A C base ι0 s0 w0 listed ac w q ι aE H) {p : Nat} {x : PStep} {o : Oper} (hx : pl[p]? = some x) (ho : ops[x.i]? = some o)
    (hnl : ¬ Lst listed x.i) (hr : ∀ e ∈ o.after, Region.binds .any e = true → Lst listed e.on) (hc : cls E o.op = .alloc) {ob : AObj} (hm : made E ops A p o = some ob)
    {v v' : Value} (hput : (A p).put o.dst v = some (A (p + 1))) (haE : aE.put o.dst v = some aE') {ni : NI} {ob' : Obj} (hz : ∀ off, fzObj (some ob') off = false) (hblk : ni.blk = w.heap.size)
    (hor : OR (upd ι (base + x.i) ni) (wpush w ob') ni ob) (hv : VR (upd ι (base + x.i) ni) v v') :
    Stands E ops pl A C base ι0 s0 w0 (listed.setIfInBounds x.i true) (ac.put o.dst v') (wpush w ob') q (upd ι (base + x.i) ni) aE' { H with heap := H.heap.set (base + x.i) ob } := by
  have hlt : x.i < ops.size := (Array.getElem?_eq_some_iff.1 ho).1
  have hsz : x.i < listed.size := by rw [hI.size]; exact hlt
  have hun := hI.un p x hx hnl
  have hqp : q ≤ p := by
    rcases Nat.lt_or_ge p q with h | h
    · exact absurd (hI.al p x o hx ho hc h) hnl
    · exact h
  have hroom := hI.room
  have hlow := hI.low
  have hnext := hI.next
  obtain ⟨t1, t2, t3, t4, t5⟩ := stands_tmps hT hF hI hx ho hput haE (Ext.upd ni hun) hv
  refine ⟨by simp [hI.size], closed_set hI ho hr, hI.qle, hI.qc, ?_, ?_, t1, t2, t3, t4, t5, hI.post.pushAt (by omega) (by omega) hun hblk hor hz, hI.low, hI.next, hI.room, ?_, ?_, ?_, hI.g3⟩
  · intro r y oy hy hoy hcy
    rw [lst_set hsz, ← hI.ch r y oy hy hoy hcy]
    constructor
    · rintro (h | h)
      · have := uniqi hF hy hx hoy ho h
        subst this
        rw [hx] at hy; cases hy
        rw [ho] at hoy; cases hoy
        rw [hc] at hcy; cases hcy
      · exact h
    · exact .inr
  · intro r y oy hy hoy hcy hlt
    exact (lst_set hsz).2 (.inr (hI.al r y oy hy hoy hcy hlt))
  · intro r y hy hl
    have hne : base + y.i ≠ base + x.i := fun e => hl ((lst_set hsz).2 (.inl (by omega)))
    rw [upd_ne _ _ hne]
    exact hI.un r y hy fun h => hl ((lst_set hsz).2 (.inr h))
  · intro r y oy hq hy hoy
    simp only [Tr.get_set]
    by_cases e : y.i = x.i
    · have := uniqi hF hy hx hoy ho e
      subst this
      rw [hx] at hy; cases hy
      rw [ho] at hoy; cases hoy
      rw [if_pos rfl, if_pos ((lst_set hsz).2 (.inl rfl)), hm]
    · rw [if_neg (by omega), hI.g1 r y oy hq hy hoy]
      have : Lst (listed.setIfInBounds x.i true) y.i ↔ Lst listed y.i := by
        rw [lst_set hsz]; simp [e]
      by_cases hl : Lst listed y.i
      · rw [if_pos hl, if_pos (this.2 hl)]
      · rw [if_neg hl, if_neg (fun h => hl (this.1 h))]
  · intro m hm'
    simp only [Tr.get_set]
    rw [if_neg (hm' p x hqp hx)]
    exact hI.g2 m hm'

/-- What an operation that may write finds. -/
theorem at_chain (hT : Tra E callK ops.toList base pl A C) (hF : PlanFacts E ops pl) (hI : Stands E ops pl A C base ι0 s0 w0 listed ac w q ι aE H) {p : Nat} {x : PStep} {o : Oper} (hx : pl[p]? = some x) (ho : ops[x.i]? = some o)
    (hr : ∀ e ∈ o.after, Region.binds .any e = true → Lst listed e.on) (hc : cls E o.op = .read ∨ isCh (cls E o.op) = true) (hqp : q ≤ p) :
    (C p).next = H.next ∧ (∀ r y, p ≤ r → pl[r]? = some y → (C p).heap.get (base + y.i) = none) ∧ (∀ m ob, (C p).heap.get m = some ob → H.heap.get m = some ob) ∧ SR ι (C p) w := by
  have hp : p < pl.length := (List.getElem?_eq_some_iff.1 hx).1
  obtain ⟨h1, h2, h3⟩ := inv_at hT hF hI hqp (Nat.le_of_lt hp)
    (fun r y oy hr1 hr2 hy hoy => by
      cases hcy : isCh (cls E oy.op) with
      | false => rfl
      | true =>
        have hb : Bef ops y.i x.i := by
          rcases hc with hc | hc
          · exact (hF.two r p y x oy o hr2 hy hx hoy ho).after hcy hc
          · exact (hF.two r p y x oy o hr2 hy hx hoy ho).chain hcy hc
        have := (hI.ch r y oy hy hoy hcy).1 (hb _ hI.closed o ho hr)
        omega)
    (fun r y oy hr2 hy hoy hcy => (hF.two r p y x oy o hr2 hy hx hoy ho).made hcy hc _ hI.closed o ho hr)
  have hsub : ∀ m ob, (C p).heap.get m = some ob → H.heap.get m = some ob := by
    intro m ob hm
    rw [← h3 m]
    · exact hm
    · intro r y hr1 hy e
      subst e
      rw [h2 r y hr1 hy] at hm; cases hm
  exact ⟨h1, h2, hsub, hI.post.rel.sub hsub (Nat.le_of_eq h1.symm)⟩

/-- An operation that may write. -/
theorem stands_chain (hT : Tra E callK ops.toList base pl A C) (hF : PlanFacts E ops pl) (hI : Stands E ops pl A C base ι0 s0 w0 listed ac w q ι aE H) {p : Nat} {x : PStep} {o : Oper} (hx : pl[p]? = some x) (ho : ops[x.i]? = some o)
    (hr : ∀ e ∈ o.after, Region.binds .any e = true → Lst listed e.on) (hc : isCh (cls E o.op) = true) (hqp : q ≤ p)
    {v v' : Value} (hput : (A p).put o.dst v = some (A (p + 1))) (haE : aE.put o.dst v = some aE') (hv : VR ι' v v') (hpost : Post ι (C p) w ι' (C (p + 1)) w') :
    ∃ H', Stands E ops pl A C base ι0 s0 w0 (listed.setIfInBounds x.i true) (ac.put o.dst v') w' (p + 1) ι' aE' H' := by
  have hlt : x.i < ops.size := (Array.getElem?_eq_some_iff.1 ho).1
  have hsz : x.i < listed.size := by rw [hI.size]; exact hlt
  have hp : p < pl.length := (List.getElem?_eq_some_iff.1 hx).1
  obtain ⟨h1, h2, h3, _⟩ := at_chain hT hF hI hx ho hr (.inr hc) hqp
  obtain ⟨t1, t2, t3, t4, t5⟩ := stands_tmps hT hF hI hx ho hput haE hpost.ext hv
  obtain ⟨T, hTr⟩ := Tr.patch (C (p + 1)).heap H.heap ((pl.drop (p + 1)).map fun y => base + y.i)
  have hM : ∀ m, m ∈ ((pl.drop (p + 1)).map fun y => base + y.i) ↔ ∃ r y, p + 1 ≤ r ∧ pl[r]? = some y ∧ m = base + y.i := by
    intro m
    rw [List.mem_map]
    constructor
    · rintro ⟨y, hy, rfl⟩
      obtain ⟨k, hk⟩ := List.mem_iff_getElem?.1 hy
      rw [List.getElem?_drop] at hk
      exact ⟨p + 1 + k, y, by omega, hk, rfl⟩
    · rintro ⟨r, y, hr1, hy, rfl⟩
      refine ⟨y, List.mem_iff_getElem?.2 ⟨r - (p + 1), ?_⟩, rfl⟩
      rw [List.getElem?_drop, ← hy]; congr 1; omega
  have hroom := hI.room
  have hnext := hI.next
  have hsize : ∀ {r : Nat} {y : PStep}, pl[r]? = some y → y.i < ops.size := by
    intro r y hy
    obtain ⟨oy, hoy⟩ := tra_op hT hy
    exact (Array.getElem?_eq_some_iff.1 hoy).1
  have hfr : Post ι H w ι' ⟨T, (C (p + 1)).next⟩ w' := by
    refine Post.frameH hpost hI.post.rel h3 h1 rfl (fun m => m ∈ ((pl.drop (p + 1)).map fun y => base + y.i)) (fun m hm => ?_) (fun m hm => ?_) (fun m hm => ?_)
    · show T.get m = _
      rw [hTr, if_pos hm]
    · show T.get m = _
      rw [hTr, if_neg hm]
    · obtain ⟨r, y, hr1, hy, rfl⟩ := (hM m).1 hm
      exact h2 r y (by omega) hy
  have hnl' : ∀ {r : Nat} {y : PStep}, p + 1 ≤ r → pl[r]? = some y → (Lst (listed.setIfInBounds x.i true) y.i ↔ Lst listed y.i) := by
    intro r y hr1 hy
    obtain ⟨oy, hoy⟩ := tra_op hT hy
    rw [lst_set hsz]
    constructor
    · rintro (h | h)
      · have := uniqi hF hy hx hoy ho h; omega
      · exact h
    · exact .inr
  refine ⟨⟨T, (C (p + 1)).next⟩, ⟨by simp [hI.size], closed_set hI ho hr, hp, .inr ⟨x, o, hx, ho, hc⟩, ?_, ?_, t1, t2, t3, t4, t5, hI.post.trans hfr, hI.low, rfl, ?_, ?_, ?_, ?_, ?_⟩⟩
  · intro r y oy hy hoy hcy
    rw [lst_set hsz]
    constructor
    · rintro (h | h)
      · have := uniqi hF hy hx hoy ho h; omega
      · have := (hI.ch r y oy hy hoy hcy).1 h; omega
    · intro hlt'
      by_cases e : r = p
      · subst e
        rw [hx] at hy; cases hy
        exact .inl rfl
      · exact .inr ((hF.two r p y x oy o (by omega) hy hx hoy ho).chain hcy hc _ hI.closed o ho hr)
  · intro r y oy hy hoy hcy hlt'
    rw [lst_set hsz]
    by_cases e : r = p
    · subst e
      rw [hx] at hy; cases hy
      rw [ho] at hoy; cases hoy
      rw [hcy] at hc; cases hc
    · exact .inr ((hF.two r p y x oy o (by omega) hy hx hoy ho).made hcy (.inr hc) _ hI.closed o ho hr)
  · have := hpost.next
    omega
  · intro r y hy hl
    have hun := hI.un r y hy fun h => hl ((lst_set hsz).2 (.inr h))
    cases hg : ι' (base + y.i) with
    | none => rfl
    | some ni =>
      rcases hpost.newn _ _ hg with h | h
      · rw [hun] at h; cases h
      · have := hsize hy; omega
  · intro r y oy hr1 hy hoy
    show T.get _ = _
    rw [hTr, if_pos ((hM _).2 ⟨r, y, hr1, hy, rfl⟩), hI.g1 r y oy (by omega) hy hoy]
    by_cases hl : Lst listed y.i
    · rw [if_pos hl, if_pos ((hnl' hr1 hy).2 hl)]
    · rw [if_neg hl, if_neg (fun h => hl ((hnl' hr1 hy).1 h))]
  · intro m hm
    show T.get _ = _
    rw [hTr, if_neg]
    intro h
    obtain ⟨r, y, hr1, hy, e⟩ := (hM m).1 h
    exact hm r y hr1 hy e
  · intro r y hr1 hy
    cases hg : (C (p + 1)).heap.get (base + y.i) with
    | none => rfl
    | some ob =>
      rcases hpost.live _ _ hg with ⟨ob', h⟩ | h
      · rw [h2 r y (by omega) hy] at h; cases h
      · have := hsize hy; omega

end
end Go.Sh
