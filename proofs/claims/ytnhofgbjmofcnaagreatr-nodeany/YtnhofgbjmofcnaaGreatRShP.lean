/-
  A shadow interpreter for the model's operations: every operation that writes is met. (No program in it.)
-/
import Derived.Test.YtnhofgbjmofcnaaGreatRShO
namespace Go.Sh
open Go

variable [Sg : Sig]

section
variable {E : Env} {P : Program} {ι : Inj} {ρ : Operand → Option Value} {ρ' : Operand → Value} {s s' : St} {w : World}

omit Sg in
theorem firstN_zero {size : Nat} {x : Value} {r : List Value} (h : firstN s size 0 x = some r) : r = [] := by
  cases x <;> simp only [firstN] at h <;> first | (cases h; done) | skip
  · simp at h; exact h
  · rename_i a l c
    cases a with
    | none => simp only [firstN] at h; cases h; rfl
    | some a =>
      simp only [firstN, Nat.zero_mul, takeN] at h
      cases hg : s.heap.get a.block with
      | none => rw [hg] at h; cases h
      | some ob =>
        rw [hg] at h
        cases ob <;> (try simp only at h) <;> first | (cases h; done) | skip
        cases hq : a.spot.isSome with
        | true => rw [hq] at h; cases h
        | false => rw [hq] at h; simp only [cond_false] at h; cases h; rfl

theorem does_append (hE : E.Ok P) (hρ : Env' ι ρ ρ') (hs : SR ι s w) {o : Oper} {c : Call} {vs : List Value} {v : Value} (ho : o.op = .call c) (hcc : c.callee = .builtin .append) (hev : evalL ρ c.args.toList = some vs)
    (h : aappend E s c.argTypes.toList vs = some (v, s')) : Does P ι s ρ' o v s' w := by
  unfold aappend at h
  split at h
  case h_2 => cases h
  case h_1 st xt rst base sLen sCap x hat =>
  have hl := evalL_LR hρ hev
  generalize hg0 : c.args.toList.map ρ' = ws at hl
  cases hl with
  | cons _ y0 _ ys hy0 hys =>
  cases hys with
  | cons _ y1 _ ys1 hy1 hys1 =>
  cases hys1
  have hargs : c.args.map ρ' = ⟨[y0, y1]⟩ := by apply array_eq_of_toList; simpa using hg0
  cases ht : E.ty.get st with
  | none => simp only [ht] at h; cases h
  | some ti => cases htx : E.ty.get xt with
    | none => simp only [ht, htx] at h; cases h
    | some tx =>
      simp only [ht, htx] at h
      cases hxt : isNum tx.und with
      | true => rw [hxt] at h; cases h
      | false =>
        rw [hxt] at h
        simp only [cond_false] at h
        cases hd : ti.und <;> simp only [hd] at h <;> first | (cases h; done) | skip
        rename_i e
        cases he : E.ty.get e with
        | none => simp only [he] at h; cases h
        | some te => cases hlx : lenOf x with
          | none => simp only [he, hlx] at h; cases h
          | some n =>
            simp only [he, hlx] at h
            have hTe := hE.ty _ _ he
            have hc0 : c.argTypes[0]? = some st := by
              have h0 : c.argTypes = ⟨c.argTypes.toList⟩ := rfl
              rw [h0, hat]; rfl
            have hc1 : c.argTypes[1]? = some xt := by
              have h0 : c.argTypes = ⟨c.argTypes.toList⟩ := rfl
              rw [h0, hat]; rfl
            have hnk : ∀ k, tx.und ≠ .int k := by
              intro k hk; rw [hk] at hxt; simp [isNum] at hxt
            have hT : AppTy P c.argTypes st xt e ti tx te := ⟨hc0, hc1, (hE.ty _ _ ht).und, (hE.ty _ _ htx).und, hd, hnk, hTe⟩
            cases hfn : firstN s te.size n x with
            | none => rw [hfn] at h; cases h
            | some new =>
              simp only [hfn] at h
              obtain ⟨new', hnl, hnr⟩ := firstN_run hs hfn hy1 hlx (Nat.le_refl n)
              have hlen := lenOf_run (P := P) (w := w) hlx hy1
              have mk : ∀ {v' w' ι'}, (∀ t, (Builtin.append_ c.argTypes t ⟨[y0, y1]⟩).run P w = .ok v' w') → VR ι' v v' → Post ι s w ι' s' w' → Does P ι s ρ' o v s' w := by
                intro v' w' ι' h1 h2 h3
                exact builtin_does ho hcc (fun _ _ _ => rfl) (fun t => by rw [hargs]; exact h1 t) h2 h3
              cases hle : Nat.ble (sLen + n) sCap with
              | true =>
                simp only [hle, cond_true] at h
                have hle' : sLen + n ≤ sCap := Nat.le_of_ble_eq_true hle
                cases base with
                | none =>
                  simp only at h
                  cases new with
                  | cons _ _ => simp only at h; cases h
                  | nil =>
                    simp only at h; cases h
                    cases hy0
                    exact mk (fun t => append_in hT hle' hlen (hnr P) (.inl ⟨rfl, rfl⟩)) (.snil _ _) (Post.refl hs)
                | some a =>
                  simp only at h
                  cases new with
                  | nil =>
                    simp only at h; cases h
                    cases hnl
                    rcases hy0.slice_some with ⟨nm, off, ni, cap', rfl, hni, rfl, hco, hcc'⟩ | ⟨a', rfl, rfl, rfl⟩
                    · exact mk (fun t => append_in hT (by omega) hlen (hnr P) (.inr ⟨_, rfl, by simp [storeCells]⟩)) (.slice nm off _ _ _ ni hni hco hcc') (Post.refl hs)
                    · have e0 : 0 + n = 0 := by omega
                      have := fun t => append_in (w' := w) (t := t) hT (by omega) hlen (hnr P) (.inr ⟨a', rfl, by simp [storeCells]⟩) (sLen := 0) (sCap' := 0)
                      rw [e0] at this
                      refine mk this ?_ (Post.refl hs)
                      rw [e0]; exact .szero _ _
                  | cons u us =>
                    simp only at h
                    cases hw : writable s a.block with
                    | none => rw [hw] at h; cases h
                    | some ce =>
                      obtain ⟨cs, esz⟩ := ce
                      simp only [hw] at h
                      cases hcl : (allV isCell (u :: us) && a.spot.isNone) with
                      | false => rw [hcl] at h; cases h
                      | true =>
                        simp only [hcl, cond_true] at h
                        simp only [Bool.and_eq_true] at hcl
                        cases hset : setN cs (a.off + sLen * te.size) (u :: us) with
                        | none => rw [hset] at h; cases h
                        | some c1 =>
                          simp only [hset] at h
                          cases h
                          rcases hy0.slice_some with ⟨nm, off, ni, cap', rfl, hni, rfl, hco, hcc'⟩ | ⟨a', rfl, rfl, rfl⟩
                          · obtain ⟨w', hrun, hpost⟩ := hs.write (writable_eq hw) hni hset hnl hcl.1
                            exact mk (fun t => append_in hT (by omega) hlen (hnr P) (.inr ⟨_, rfl, by rw [add_spot, Nat.add_assoc]; exact hrun P⟩)) (.slice nm off _ _ _ ni hni hco hcc') hpost
                          · exfalso
                            obtain rfl : n = 0 := by omega
                            have := firstN_zero hfn
                            cases this
              | false =>
                simp only [hle, cond_false] at h
                have hgt : sCap < sLen + n := by
                  apply Nat.lt_of_not_le; intro hh; rw [Nat.ble_eq_true_of_le hh] at hle; cases hle
                cases hfo : firstN s te.size sLen (.slice base sLen sCap) with
                | none => rw [hfo] at h; cases h
                | some old =>
                  simp only [hfo] at h
                  cases hck : (Nat.blt 0 te.size && Nat.ble ((sLen + n) * te.bytes) most && Nat.ble (sLen + n) most && sizeIs te.size te.zero && allV isCell new && Nat.beq (old.length + new.length) ((sLen + n) * te.size)) with
                  | false => rw [hck] at h; cases h
                  | true =>
                    rw [hck] at h
                    simp only [cond_true] at h
                    simp only [Bool.and_eq_true, nat_beq_eq, decide_eq_true_eq, sizeIs_iff] at hck
                    obtain ⟨⟨⟨⟨⟨k1, k2⟩, k3⟩, k4⟩, k5⟩, k6⟩ := hck
                    have k1 := blt_lt k1
                    have k2 := Nat.le_of_ble_eq_true k2
                    have k3 := Nat.le_of_ble_eq_true k3
                    have hs1 : SR ι s { w with drawn := w.drawn + 1 } := hs.of_heap rfl
                    obtain ⟨old', hol, hor⟩ := firstN_run hs1 hfo hy0 rfl (Nat.le_refl sLen)
                    obtain ⟨new1, hnl1, hnr1⟩ := firstN_run hs1 hfn hy1 hlx (Nat.le_refl n)
                    have hlen2 : (old ++ new).length = (sLen + n) * te.size := by rw [List.length_append]; exact k6
                    -- a new row
                    have grow : ∀ (s0 : St) (base' : Option Addr) (sCap' : Nat), y0 = .slice base' sLen sCap' → sCap' < sLen + n → (∀ m p, s0.heap.get m = some p → s.heap.get m = some p) → s0.next = s.next →
                        v = .slice (some ⟨s.next, 0, none⟩) (sLen + n) (sLen + n) → s' = { heap := s0.heap.set s.next (.cells (old ++ new) (some te.size) false), next := s.next + 1 } → Does P ι s ρ' o v s' w := by
                      intro s0 base' sCap' hy hlt hsub hnx hv hs'
                      subst hy hv hs'
                      obtain ⟨newCap, rest', cc, g1, g2, g3, g4⟩ := append_out (t := default) hT hlt k2 k3 k1 k4 hlen (hnr1 P) (hor P)
                      obtain ⟨ι', g5, g6⟩ := grown_post (e := e) hs hsub hnx hol hnl1 k1 hlen2 g3 g2 g1
                      exact mk (fun t => g4) g5 g6
                    have exactCap : ∀ (a : Addr), base = some a → (∀ cs ro, s.heap.get a.block = some (.cells cs none ro) → ∃ base' sCap', y0 = .slice base' sLen sCap' ∧ sCap' < sLen + n) := by
                      intro a hb cs ro hg
                      subst hb
                      rcases hy0.slice_some with ⟨nm, off, ni, cap', rfl, hni, hy, hco, hcc'⟩ | ⟨a', e1, e2, hy⟩
                      · have hes : ni.esz = none := by obtain ⟨_, _, _, _, _, h3, _⟩ := hs.cells hg hni; exact h3
                        refine ⟨_, _, hy, ?_⟩
                        rcases hco with rfl | ⟨k, _, hk, _⟩
                        · exact hgt
                        · rw [hes] at hk; cases hk
                      · exact ⟨_, 0, by rw [hy, e1], by omega⟩
                    cases base with
                    | none =>
                      simp only at h; cases h
                      generalize hyy : y0 = yy at hy0
                      cases hy0
                      exact grow s none sCap hyy hgt (fun _ _ h => h) rfl rfl rfl
                    | some a =>
                      simp only at h
                      cases hg : s.heap.get a.block with
                      | none => rw [hg] at h; cases h
                      | some ob =>
                        rw [hg] at h
                        cases ob <;> (try simp only at h) <;> first | (cases h; done) | skip
                        rename_i cs esz ro
                        cases esz with
                        | none =>
                          simp only at h; cases h
                          obtain ⟨b', c', hy, hlt⟩ := exactCap a rfl cs ro hg
                          exact grow s b' c' hy hlt (fun _ _ h => h) rfl rfl rfl
                        | some k =>
                          cases ro with
                          | true => simp only at h; cases h
                          | false =>
                            simp only at h
                            cases hk : Nat.beq k te.size with
                            | false => rw [hk] at h; cases h
                            | true =>
                              rw [hk] at h
                              simp only [cond_true] at h
                              simp only [nat_beq_eq, decide_eq_true_eq] at hk
                              subst hk
                              cases h
                              have hsubd : ∀ m p, (s.heap.del a.block).get m = some p → s.heap.get m = some p := by
                                intro m p hm
                                rw [Tr.get_del] at hm
                                split at hm
                                · cases hm
                                · exact hm
                              rcases hy0.slice_some with ⟨nm, off, ni, cap', rfl, hni, hy, hco, hcc'⟩ | ⟨a', e1, e2, hy⟩
                              · by_cases hfit : sLen + n ≤ cap'
                                · -- it goes on in place
                                  have hsc : ni.d + off + cap' * te.size = ni.sc := by
                                    rcases hco with rfl | ⟨k, _, hk1, _, hk3⟩
                                    · omega
                                    · have hes : ni.esz = some te.size := by obtain ⟨_, _, _, _, _, h3, _⟩ := hs.cells hg hni; exact h3
                                      rw [hes] at hk1; cases hk1
                                      exact hk3
                                  have hold : takeN (sLen * te.size) (cs.drop off) = some old := by
                                    simp only [firstN, hg] at hfo
                                    simpa using hfo
                                  obtain ⟨w', g1, ι', g2, g3⟩ := inplace_post hs hg hni hold hnl k5 rfl k6 hfit hsc
                                  subst hy
                                  exact mk (fun t => append_in hT hfit hlen (hnr P) (.inr ⟨_, rfl, by rw [add_spot]; exact g1 P⟩)) g2 g3
                                · exact grow { heap := s.heap.del nm, next := s.next } _ cap' hy (by omega) hsubd rfl rfl rfl
                              · exact grow { heap := s.heap.del a.block, next := s.next } (some a') 0 (by rw [hy, e1]) (by omega) hsubd rfl rfl rfl

theorem does_copy (hE : E.Ok P) (hρ : Env' ι ρ ρ') (hs : SR ι s w) {o : Oper} {c : Call} {vs : List Value} {v : Value} (ho : o.op = .call c) (hcc : c.callee = .builtin .copy) (hev : evalL ρ c.args.toList = some vs)
    (h : acopy E s c.argTypes.toList vs = some (v, s')) : Does P ι s ρ' o v s' w := by
  unfold acopy at h
  split at h
  case h_2 => cases h
  case h_1 dt rst base dLen dCap src hat =>
  have hl := evalL_LR hρ hev
  generalize hg0 : c.args.toList.map ρ' = ws at hl
  cases hl with
  | cons _ y0 _ ys hy0 hys =>
  cases hys with
  | cons _ y1 _ ys1 hy1 hys1 =>
  cases hys1
  have hargs : c.args.map ρ' = ⟨[y0, y1]⟩ := by apply array_eq_of_toList; simpa using hg0
  have htys : c.argTypes = ⟨dt :: rst⟩ := by apply Array.ext'; simpa using hat
  have h0 : (⟨dt :: rst⟩ : Array TypeId)[0]? = some dt := rfl
  have e0 : (⟨[y0, y1]⟩ : Array Value)[0]? = some y0 := rfl
  have e1 : (⟨[y0, y1]⟩ : Array Value)[1]? = some y1 := rfl
  cases ht : E.ty.get dt with
  | none => simp only [ht] at h; cases h
  | some ti =>
    simp only [ht] at h
    have hu := (hE.ty _ _ ht).und
    cases hd : ti.und <;> simp only [hd] at h hu <;> first | (cases h; done) | skip
    rename_i e
    cases he : E.ty.get e with
    | none => simp only [he] at h; cases h
    | some te => cases hlx : lenOf src with
      | none => simp only [he, hlx] at h; cases h
      | some n =>
        simp only [he, hlx] at h
        cases hfn : firstN s te.size (Nat.min n dLen) src with
        | none => rw [hfn] at h; cases h
        | some new =>
          simp only [hfn] at h
          obtain ⟨new', hnl, hnr⟩ := firstN_run hs hfn hy1 hlx (Nat.min_le_left _ _)
          have hlen := lenOf_run (P := P) (w := w) hlx hy1
          have mk : ∀ {base' : Option Addr} {cap' : Nat} {w' : World}, y0 = .slice base' dLen cap' → v = .int .i64 (Nat.min n dLen) → ((base' = none ∧ w' = w) ∨ ∃ a, base' = some a ∧ (storeCells a new').run P w = .ok () w') → Post ι s w ι s' w' → Does P ι s ρ' o v s' w := by
            intro base' cap' w' hy hv hst hp
            subst hy hv
            refine builtin_does (f := Builtin.copy_) (v' := .int .i64 (Nat.min n dLen)) ho hcc (fun _ _ _ => rfl) (fun t => ?_) (.int _ _) hp
            rw [hargs, htys]
            unfold Builtin.copy_
            simp only [h0, e0, e1, Sem.run_bind, run_underlying hu, Result.andThen_ok, hlen, (hE.ty _ _ he).run_size, hnr P]
            rcases hst with ⟨rfl, rfl⟩ | ⟨a, rfl, hst⟩
            · simp [goInt]
            · simp [goInt, hst]
          cases base with
          | none =>
            simp only at h; cases h
            generalize hyy : y0 = yy at hy0
            cases hy0
            exact mk hyy rfl (.inl ⟨rfl, rfl⟩) (Post.refl hs)
          | some a =>
            cases new with
            | nil =>
              simp only at h; cases h
              cases hnl
              rcases hy0.slice_some with ⟨nm, off, ni, cap', rfl, hni, hy, hco, hcc'⟩ | ⟨a', e1, e2, hy⟩
              · exact mk hy rfl (.inr ⟨_, rfl, by simp [storeCells]⟩) (Post.refl hs)
              · exact mk (cap' := 0) (by rw [hy, e1]) rfl (.inr ⟨_, rfl, by simp [storeCells]⟩) (Post.refl hs)
            | cons u us =>
              simp only at h
              cases hw : writable s a.block with
              | none => rw [hw] at h; cases h
              | some ce =>
                obtain ⟨cs, esz⟩ := ce
                simp only [hw] at h
                cases hcl : (allV isCell (u :: us) && a.spot.isNone) with
                | false => rw [hcl] at h; cases h
                | true =>
                  simp only [hcl, cond_true] at h
                  simp only [Bool.and_eq_true] at hcl
                  cases hset : setN cs a.off (u :: us) with
                  | none => rw [hset] at h; cases h
                  | some c1 =>
                    simp only [hset] at h
                    cases h
                    rcases hy0.slice_some with ⟨nm, off, ni, cap', rfl, hni, hy, hco, hcc'⟩ | ⟨a', e1, e2, hy⟩
                    · obtain ⟨w', hrun, hpost⟩ := hs.write (writable_eq hw) hni hset hnl hcl.1
                      exact mk hy rfl (.inr ⟨_, rfl, hrun P⟩) hpost
                    · exfalso
                      subst e1
                      have hz : Nat.min n 0 = 0 := Nat.min_zero n
                      rw [hz] at hfn
                      have := firstN_zero hfn
                      cases this

theorem does_clear (hE : E.Ok P) (hρ : Env' ι ρ ρ') (hs : SR ι s w) {o : Oper} {c : Call} {vs : List Value} {v : Value} (ho : o.op = .call c) (hcc : c.callee = .builtin .clear) (hev : evalL ρ c.args.toList = some vs)
    (h : aclear E s c.argTypes.toList vs = some (v, s')) : Does P ι s ρ' o v s' w := by
  unfold aclear at h
  split at h
  case h_2 => cases h
  case h_1 t0 rst x hat =>
  have hl := evalL_LR hρ hev
  generalize hg0 : c.args.toList.map ρ' = ws at hl
  cases hl with
  | cons _ y0 _ ys hy0 hys =>
  cases hys
  have hargs : c.args.map ρ' = ⟨[y0]⟩ := by apply array_eq_of_toList; simpa using hg0
  have htys : c.argTypes = ⟨t0 :: rst⟩ := by apply Array.ext'; simpa using hat
  have h0 : (⟨t0 :: rst⟩ : Array TypeId)[0]? = some t0 := rfl
  have e0 : (⟨[y0]⟩ : Array Value)[0]? = some y0 := rfl
  cases ht : E.ty.get t0 with
  | none => simp only [ht] at h; cases h
  | some ti =>
    simp only [ht] at h
    have hu := (hE.ty _ _ ht).und
    have mk : ∀ {w' : World}, v = .tuple #[] → (∀ t, (Builtin.clear_ ⟨t0 :: rst⟩ t ⟨[y0]⟩).run P w = .ok (.tuple #[]) w') → Post ι s w ι s' w' → Does P ι s ρ' o v s' w := by
      intro w' hv hr hp
      subst hv
      exact builtin_does (f := Builtin.clear_) ho hcc (fun _ _ _ => rfl) (fun t => by rw [hargs, htys]; exact hr t) (.tuple [] [] .nil) hp
    split at h
    · rename_i hd; rw [hd] at hu; cases h
      generalize hyy : y0 = yy at hy0
      cases hy0
      exact mk rfl (fun t => by subst hyy; unfold Builtin.clear_; simp only [h0, e0, Sem.run_bind, run_underlying hu, Result.andThen_ok]; simp) (Post.refl hs)
    · rename_i r hd; rw [hd] at hu
      obtain ⟨ni, hni, rfl⟩ := hy0.map_some
      cases hg : s.heap.get r with
      | none => rw [hg] at h; cases h
      | some ob =>
        rw [hg] at h
        cases ob <;> (try simp only at h) <;> first | (cases h; done) | skip
        rename_i es clock
        cases h
        obtain ⟨es', hw, hes⟩ := hs.map hg hni
        exact mk rfl (fun t => by unfold Builtin.clear_; simp only [h0, e0, Sem.run_bind, run_underlying hu, Result.andThen_ok]; simp [run_getMap hw, run_setObj hw (by intros; simp)]) (hs.mapSet hg hni .nil)
    · rename_i hd; rw [hd] at hu; cases h
      generalize hyy : y0 = yy at hy0
      cases hy0
      exact mk rfl (fun t => by subst hyy; unfold Builtin.clear_; simp only [h0, e0, Sem.run_bind, run_underlying hu, Result.andThen_ok]; simp) (Post.refl hs)
    · rename_i a cap hd; rw [hd] at hu; cases h
      rcases hy0.slice_some with ⟨nm, off, ni, cap', rfl, hni, rfl, hco, hcc'⟩ | ⟨a', e1, e2, rfl⟩
      · exact mk rfl (fun t => by unfold Builtin.clear_; simp only [h0, e0, Sem.run_bind, run_underlying hu, Result.andThen_ok]; simp) (Post.refl hs)
      · exact mk rfl (fun t => by unfold Builtin.clear_; simp only [h0, e0, Sem.run_bind, run_underlying hu, Result.andThen_ok]; simp) (Post.refl hs)
    · rename_i e a n cap hd; rw [hd] at hu
      cases he : E.ty.get e with
      | none => simp only [he] at h; cases h
      | some te => cases hw : writable s a.block with
        | none => simp only [he, hw] at h; cases h
        | some ce =>
          obtain ⟨cs, esz⟩ := ce
          simp only [he, hw] at h
          have hTe := hE.ty _ _ he
          cases hcl : (Nat.blt 0 te.size && sizeIs te.size te.zero && allV isCell te.zero && a.spot.isNone) with
          | false => rw [hcl] at h; cases h
          | true =>
            rw [hcl] at h
            simp only [cond_true] at h
            simp only [Bool.and_eq_true, sizeIs_iff] at hcl
            obtain ⟨⟨⟨k1, k2⟩, k3⟩, _⟩ := hcl
            have k1 := blt_lt k1
            cases hset : setN cs a.off (repN (n + 1) te.zero) with
            | none => rw [hset] at h; cases h
            | some c1 =>
              simp only [hset] at h
              cases h
              rcases hy0.slice_some with ⟨nm, off, ni, cap', rfl, hni, rfl, hco, hcc'⟩ | ⟨a', e1, e2, rfl⟩
              · have hall : ∀ m, ∀ v ∈ repN m te.zero, v ∈ te.zero := by
                  intro m
                  induction m with
                  | zero => intro v hv; simp [repN] at hv
                  | succ m ih => intro v hv; simp only [repN, List.mem_append] at hv; rcases hv with hv | hv; exact hv; exact ih v hv
                have hrep : LR ι (repN (n + 1) te.zero) (repN (n + 1) te.zero) := .self fun v hv => plainV_VR (hTe.plain v (hall _ v hv))
                have hcells : allV isCell (repN (n + 1) te.zero) = true := allV_mem.2 fun v hv => allV_mem.1 k3 v (hall _ v hv)
                obtain ⟨w', hrun, hpost⟩ := hs.write (writable_eq hw) hni hset hrep hcells
                obtain ⟨z, hz, hzc, _⟩ := hTe.run_zero w
                have hzs : z.cells.size = te.size := by rw [← Array.length_toList, hzc]; exact k2
                refine mk rfl (fun t => ?_) hpost
                unfold Builtin.clear_
                simp only [h0, e0, Sem.run_bind, run_underlying hu, Result.andThen_ok, hz]
                rw [zeroCells_eq z.cells (n + 1) (by omega), hzc]
                simp [hrun P]
              · cases e1
    · cases h

theorem does_delete (hE : E.Ok P) (hρ : Env' ι ρ ρ') (hs : SR ι s w) {o : Oper} {c : Call} {vs : List Value} {v : Value} (ho : o.op = .call c) (hcc : c.callee = .builtin .delete) (hev : evalL ρ c.args.toList = some vs)
    (h : adelete E s c.argTypes.toList vs = some (v, s')) : Does P ι s ρ' o v s' w := by
  unfold adelete at h
  split at h
  case h_2 => cases h
  case h_1 t0 rst m k hat =>
  have hl := evalL_LR hρ hev
  generalize hg0 : c.args.toList.map ρ' = ws at hl
  cases hl with
  | cons _ y0 _ ys hy0 hys =>
  cases hys with
  | cons _ y1 _ ys1 hy1 hys1 =>
  cases hys1
  have hargs : c.args.map ρ' = ⟨[y0, y1]⟩ := by apply array_eq_of_toList; simpa using hg0
  have htys : c.argTypes = ⟨t0 :: rst⟩ := by apply Array.ext'; simpa using hat
  have h0 : (⟨t0 :: rst⟩ : Array TypeId)[0]? = some t0 := rfl
  have e0 : (⟨[y0, y1]⟩ : Array Value)[0]? = some y0 := rfl
  have e1 : (⟨[y0, y1]⟩ : Array Value)[1]? = some y1 := rfl
  cases ht : E.ty.get t0 with
  | none => simp only [ht] at h; cases h
  | some ti =>
    simp only [ht] at h
    have hu := (hE.ty _ _ ht).und
    have mk : ∀ {w' : World}, v = .tuple #[] → (∀ t, (Builtin.delete_ ⟨t0 :: rst⟩ t ⟨[y0, y1]⟩).run P w = .ok (.tuple #[]) w') → Post ι s w ι s' w' → Does P ι s ρ' o v s' w := by
      intro w' hv hr hp
      subst hv
      exact builtin_does (f := Builtin.delete_) ho hcc (fun _ _ _ => rfl) (fun t => by rw [hargs, htys]; exact hr t) (.tuple [] [] .nil) hp
    split at h
    · rename_i kt et hd; rw [hd] at hu
      cases hok : keyOk E 6 kt k with
      | false => rw [hok] at h; cases h
      | true =>
        simp only [hok, cond_true] at h
        cases h
        have hck := keyOk_run hE (w := w) true 6 hok hy1 10000 (by omega)
        generalize hyy : y0 = yy at hy0
        cases hy0
        exact mk rfl (fun t => by subst hyy; unfold Builtin.delete_; simp only [h0, e0, e1, Sem.run_bind, run_underlying hu, Result.andThen_ok]; simp [hck]) (Post.refl hs)
    · rename_i kt et r hd; rw [hd] at hu
      obtain ⟨ni, hni, rfl⟩ := hy0.map_some
      cases hg : s.heap.get r with
      | none => rw [hg] at h; cases h
      | some ob =>
        rw [hg] at h
        cases ob <;> (try simp only at h) <;> first | (cases h; done) | skip
        rename_i es clock
        obtain ⟨es', hw, hes⟩ := hs.map hg hni
        cases hok : keyOk E 6 kt k with
        | false => rw [hok] at h; cases h
        | true =>
          simp only [hok, cond_true] at h
          have hck := keyOk_run hE (w := w) es'.isEmpty 6 hok hy1 10000 (by omega)
          cases hf : findI E s kt k es 0 with
          | none => rw [hf] at h; cases h
          | some ro =>
            simp only [hf] at h
            obtain ⟨r', hr1, hr2⟩ := findKey_run hE hs hy1 hok hes hf
            have hso : ∀ o2, (setObj ni.blk o2).run P w = .ok () (wput w ni.blk o2) := fun o2 => run_setObj hw (by intros; simp)
            rcases hr2 with ⟨rfl, rfl⟩ | ⟨j, f, rfl, hf2, rfl⟩
            · simp only at h; cases h
              refine mk rfl (fun t => ?_) (Post.refl hs)
              unfold Builtin.delete_
              simp only [h0, e0, e1, Sem.run_bind, run_underlying hu, Result.andThen_ok, run_getMap hw, hck, hr1, hso, Sem.run_pure]
              rw [wput_self hw]
            · simp only [Nat.zero_add] at h
              cases h
              refine mk (w' := wput w ni.blk (.map (es'.eraseIdxIfInBounds j) clock)) rfl (fun t => ?_) (hs.mapSet hg hni ?_)
              · unfold Builtin.delete_
                simp only [h0, e0, e1, Sem.run_bind, run_underlying hu, Result.andThen_ok, run_getMap hw, hck, hr1, hso, Sem.run_pure, Nat.zero_add]
              · have := hes.delI j
                simpa using this
    · cases h

/-- EVERY OPERATION THAT WRITES. -/
theorem achain_does (hE : E.Ok P) (hρ : Env' ι ρ ρ') (hs : SR ι s w) {o : Oper} {v : Value} (h : achain E ρ o s = some (v, s')) : Does P ι s ρ' o v s' w := by
  cases ho : o.op with
  | store t x u => exact does_store hE hρ hs ho h
  | mapUpdate t m k u => exact does_mapUpdate hE hρ hs (.inl ho) h
  | insert t m k u => exact does_mapUpdate hE hρ hs (.inr ho) h
  | range t x => exact does_range hE hρ hs ho h
  | next x b =>
    cases b with
    | false => exact does_next hρ hs ho h
    | true => unfold achain at h; simp only [ho] at h; cases h
  | call c =>
    unfold achain at h
    simp only [ho] at h
    cases hcc : c.callee with
    | builtin b =>
      cases hev : evalL ρ c.args.toList with
      | none => simp only [hcc, hev] at h; cases b <;> cases h
      | some vs =>
        simp only [hcc, hev] at h
        cases b <;> simp only at h <;> first | (cases h; done) | skip
        · exact does_append hE hρ hs ho hcc hev h
        · exact does_clear hE hρ hs ho hcc hev h
        · exact does_copy hE hρ hs ho hcc hev h
        · exact does_delete hE hρ hs ho hcc hev h
    | value f => simp only [hcc] at h; cases h
    | invoke r m => simp only [hcc] at h; cases h
  | _ => unfold achain at h; simp only [ho] at h; cases h

end
end Go.Sh
