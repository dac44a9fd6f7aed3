/-
  A shadow interpreter for the model's operations: calls. (No program in it.)
-/
import Derived.Test.YtnhofgbjmofcnaaGreatRShW
namespace Go.Sh
open Go

variable [Sg : Sig]

section
variable {E : Env} {P : Program} {ι : Inj} {s : St} {w : World}

def resOne (tmps : Array Value) : ResultVar → Sem Value := fun
  | .tmp t => pure (tmps.getD t undef)
  | .cell a t => do loadVar t (← asAddr (tmps.getD a undef))

theorem resList (hE : E.Ok P) {a : AA} {ac : Act} (har : AR ι a ac) (hs : SR ι s w) : ∀ {l : List ResultVar} {vs : List Value}, aresults E a s l = some vs →
    ∃ vs', (l.mapM (resOne ac.tmps)).run P w = .ok vs' w ∧ LR ι vs vs'
  | [], vs, h => by
    simp only [aresults] at h; cases h
    exact ⟨[], by simp, .nil⟩
  | .tmp t :: rest, vs, h => by
    simp only [aresults] at h
    cases h1 : aresults E a s rest with
    | none => rw [h1] at h; cases h
    | some vs1 =>
      rw [h1] at h; cases h
      obtain ⟨vs', h2, h3⟩ := resList hE har hs h1
      refine ⟨ac.tmps.getD t undef :: vs', ?_, .cons _ _ _ _ (har.tm t) h3⟩
      rw [List.mapM_cons]
      simp only [resOne, Sem.run_bind, Sem.run_pure, Result.andThen_ok]
      rw [h2]
      simp
  | .cell x t :: rest, vs, h => by
    simp only [aresults] at h
    cases hx : a.look x <;> rw [hx] at h <;> (try simp only at h) <;> (try (cases h; done))
    rename_i p
    cases p with
    | none => simp only at h; cases h
    | some p =>
      simp only at h
      cases hl : aload E s t p with
      | none => rw [hl] at h; cases h
      | some v =>
        cases h1 : aresults E a s rest with
        | none => rw [hl, h1] at h; cases h
        | some vs1 =>
          rw [hl, h1] at h; cases h
          obtain ⟨vs', h2, h3⟩ := resList hE har hs h1
          have hv := har.tm x
          rw [hx] at hv
          generalize hy : ac.tmps.getD x undef = y at hv
          cases hv with
          | ptr n off ni hni =>
            obtain ⟨v', h4, h5⟩ := aload_run hE hs hni hl
            refine ⟨v' :: vs', ?_, .cons _ _ _ _ h5 h3⟩
            rw [List.mapM_cons]
            simp only [resOne, hy, asAddr, Sem.run_bind, Sem.run_pure, Result.andThen_ok, h4]
            rw [h2]
            simp

theorem results_run (hE : E.Ok P) {fn : Func} {a : AA} {ac : Act} (har : AR ι a ac) (hs : SR ι s w) {vs : List Value} (h : aresults E a s fn.results.toList = some vs) :
    ∃ v', (results fn ac.tmps).run P w = .ok v' w ∧ VR ι (oneOr vs) v' := by
  obtain ⟨vs', h1, h2⟩ := resList hE har hs h
  have e : results fn ac.tmps = (do
      let vs ← fn.results.mapM (resOne ac.tmps)
      pure (if h : vs.size = 1 then vs[0] else .tuple vs)) := rfl
  have e2 : (fn.results.mapM (resOne ac.tmps)).run P w = .ok vs'.toArray w := by
    rw [Array.mapM_eq_mapM_toList, Sem.run_map, h1]; rfl
  refine ⟨_, by rw [e, Sem.run_bind, e2]; rfl, ?_⟩
  cases h2 with
  | nil => exact .tuple [] [] .nil
  | cons x y xs ys hv hl =>
    cases hl with
    | nil => exact hv
    | cons x2 y2 xs2 ys2 hv2 hl2 =>
      simp only [oneOr]
      rw [dif_neg (by simp)]
      exact .tuple _ _ (.cons _ _ _ _ hv (.cons _ _ _ _ hv2 hl2))

omit Sg in
theorem ofArgs_get : ∀ (l : List Value) (i : Nat) (t : Tr Value) (j : Nat), (ofArgs i l t).get j = if j < i then t.get j else (l[j - i]?).or (t.get j)
  | [], i, t, j => by simp [ofArgs]
  | v :: vs, i, t, j => by
    simp only [ofArgs]
    rw [ofArgs_get vs (i + 1) (t.set i v) j, Tr.get_set]
    by_cases h1 : j < i
    · rw [if_pos (by omega), if_pos h1, if_neg (by omega)]
    · rw [if_neg h1]
      by_cases h2 : j = i
      · subst h2
        rw [if_pos (by omega), if_pos rfl]; simp
      · rw [if_neg (by omega), if_neg h2]
        have : j - i = (j - (i + 1)) + 1 := by omega
        rw [this, List.getElem?_cons_succ]

omit Sg in
theorem lenIs_le {n : Nat} : ∀ {l : List Value}, lenIs n l = true → l.length ≤ n := by
  induction n with
  | zero => intro l h; cases l with
    | nil => simp
    | cons v vs => simp [lenIs] at h
  | succ n ih => intro l h; cases l with
    | nil => simp
    | cons v vs => simp only [lenIs] at h; have := ih h; simp; omega

theorem start_AR {n : Nat} {args ws : List Value} (h : LR ι args ws) (hl : lenIs n args = true) :
    AR ι { tm := ofArgs 0 args .leaf, n := n, df := [] } { tmps := (⟨ws⟩ : Array Value) ++ Array.replicate (n - ws.length) undef, defers := [] } := by
  have hlen := h.length
  have hle := lenIs_le hl
  refine ⟨?_, fun t => ?_, .nil⟩
  · simp; omega
  · simp only [AA.look, ofArgs_get]
    rw [if_neg (by omega)]
    simp only [Nat.sub_zero]
    have hleaf : (Tr.leaf : Tr Value).get t = none := by simp [Tr.get]
    rw [hleaf]
    by_cases ht : t < ws.length
    · have h1 : t < args.length := by omega
      obtain ⟨y, hy, hv⟩ := h.get (i := t) (x := args[t]) (by simp [h1])
      have e1 : (args[t]?.or none).getD undef = args[t] := by simp [h1]
      have e2 : ((⟨ws⟩ : Array Value) ++ Array.replicate (n - ws.length) undef).getD t undef = y := by
        have : ((⟨ws⟩ : Array Value) ++ Array.replicate (n - ws.length) undef)[t]? = some y := by
          rw [Array.getElem?_append_left (by simpa using ht)]
          simpa using hy
        rw [Array.getD_eq_getD_getElem?, this]; rfl
      rw [e1, e2]; exact hv
    · have e1 : (args[t]?.or none).getD undef = undef := by
        rw [List.getElem?_eq_none (by omega)]; rfl
      have e2 : ((⟨ws⟩ : Array Value) ++ Array.replicate (n - ws.length) undef).getD t undef = undef := by
        rw [Array.getD_eq_getD_getElem?, Array.getElem?_append_right (by simpa using Nat.le_of_not_lt ht)]
        rw [Array.getElem?_replicate]
        split <;> rfl
      rw [e1, e2]; exact undef_VR ι

end

section
variable {E : Env} {P : Program}

theorem calls_step (hG : E.Good P) {k : Nat} (hx : ExecOk E P k) : CallsOk P (calls E k) := by
  intro g args s v s' h ι w ws hs hl
  unfold calls callOf at h
  cases hp : E.prim g with
  | some p => rw [hp] at h; exact (hG.ok.prim g p hp).1 args s v s' h ι w ws hs hl
  | none =>
    rw [hp] at h; simp only at h
    unfold callBy at h
    cases hf : E.fn.get g with
    | none => rw [hf] at h; cases h
    | some fn =>
      rw [hf] at h; simp only at h
      cases hb : fn.body with
      | none => rw [hb] at h; cases h
      | some body =>
        rw [hb] at h; simp only at h
        cases hlen : lenIs fn.ntmps args with
        | false => rw [hlen] at h; cases h
        | true =>
          rw [hlen] at h; simp only [cond_true] at h
          cases he : exec E k g body { tm := ofArgs 0 args .leaf, n := fn.ntmps, df := [] } s with
          | none => rw [he] at h; cases h
          | some r =>
            obtain ⟨ex, a, s1⟩ := r
            rw [he] at h
            have fin : (∃ vs, a.df = [] ∧ aresults E a s1 fn.results.toList = some vs ∧ v = oneOr vs ∧ s' = s1) → ex.toExit = .normal ∨ ex.toExit = .ret →
                Calls P g ⟨ws⟩ w fun e w' => ∃ ι' v', e = .returned v' ∧ VR ι' v v' ∧ Post ι s w ι' s' w' := by
              rintro ⟨vs, h1, h2, rfl, rfl⟩ hex
              refine calls_of_wp (hG.ok.fn g fn hf) hb ?_
              refine hx g body _ s ex a s' he (hG.draws g fn body hf hb) (hG.nodfr g fn body hf hb) ι _ w _ (start_AR hl hlen) hs fun ι' ac' w' g1 g2 => ?_
              obtain ⟨v', g3, g4⟩ := results_run hG.ok g1 g2.rel h2
              have hd : ac'.defers = [] := by
                have := g1.df
                rw [h1] at this
                generalize ac'.defers = l at this
                cases this; rfl
              rcases hex with hex | hex <;> rw [hex] <;> exact ⟨hd, v', g3, ι', v', rfl, g4, g2⟩
            have cont : (match (match a.df with | [] => some s1 | _ => none) with
                | some s2 => match aresults E a s2 fn.results.toList with
                  | some vs => some (oneOr vs, s2)
                  | none => none
                | none => none) = some (v, s') → ∃ vs, a.df = [] ∧ aresults E a s1 fn.results.toList = some vs ∧ v = oneOr vs ∧ s' = s1 := by
              intro h
              cases hdf : a.df with
              | cons d ds => rw [hdf] at h; cases h
              | nil =>
                rw [hdf] at h; simp only at h
                cases hr : aresults E a s1 fn.results.toList with
                | none => rw [hr] at h; cases h
                | some vs => rw [hr] at h; cases h; exact ⟨vs, rfl, rfl, rfl, rfl⟩
            cases ex with
            | exit id => simp only at h; cases h
            | normal => simp only [cond_true] at h; exact fin (cont h) (.inl rfl)
            | ret => simp only [cond_true] at h; exact fin (cont h) (.inr rfl)

/-- What the shadow's calls come to, the model's do. -/
theorem calls_ok (hG : E.Good P) (k : Nat) : CallsOk P (calls E k) := calls_step hG (exec_ok hG.ok (fun _ h => calls_step hG h) k).1

end
end Go.Sh
