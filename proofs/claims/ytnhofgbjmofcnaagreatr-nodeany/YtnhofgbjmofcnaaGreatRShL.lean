/-
  A shadow interpreter for the model's operations: writing into rows is met. (No program in it.)
-/
import Derived.Test.YtnhofgbjmofcnaaGreatRShK
namespace Go.Sh
open Go

variable [Sg : Sig]

/-- The operation does what the shadow's does. -/
def Does (P : Program) (ι : Inj) (s : St) (ρ' : Operand → Value) (o : Oper) (v : Value) (s' : St) (w : World) : Prop :=
  ∃ (nx : Next) (v' : Value) (w' : World) (ι' : Inj), (execOp ρ' o).run P w = .ok nx w' ∧ (nx = .value v' ∨ nx = .skip ∧ v' = undef) ∧ VR ι' v v' ∧ Post ι s w ι' s' w'

def setArr (c : Array Value) (k : Nat) (vs : List Value) : Array Value := ⟨c.toList.take k ++ vs ++ c.toList.drop (k + vs.length)⟩

omit Sg in
theorem setArr_size {c : Array Value} {k : Nat} {vs : List Value} (h : k + vs.length ≤ c.size) : (setArr c k vs).size = c.size := by
  have : c.toList.length = c.size := by simp
  simp [setArr]; omega

omit Sg in
theorem setArr_nil (c : Array Value) (k : Nat) : setArr c k [] = c := by
  apply array_eq_of_toList; simp [setArr]

omit Sg in
theorem wput_self {w : World} {b : Nat} {o : Obj} (h : w.heap[b]? = some o) : wput w b o = w := by
  unfold wput
  have : w.heap.setIfInBounds b o = w.heap := by
    apply Array.ext_getElem?
    intro i
    obtain ⟨hb, he⟩ := Array.getElem?_eq_some_iff.1 h
    by_cases hi : b = i
    · subst hi; simp [hb, he]
    · rw [Array.getElem?_setIfInBounds_ne hi]
  rw [this]

omit Sg in
theorem wput_wput (w : World) (b : Nat) (o o' : Obj) : wput (wput w b o) b o' = wput w b o' := by
  unfold wput
  simp

omit Sg in
theorem setCell_wput {w : World} {b o : Nat} {c : Array Value} {e : TypeId} {fr : Nat × Nat} (v : Value) (h : w.heap[b]? = some (.cells c e fr)) :
    w.setCell ⟨b, o, none⟩ v = wput w b (.cells (c.setIfInBounds o v) e fr) := by
  obtain ⟨hb, he⟩ := Array.getElem?_eq_some_iff.1 h
  unfold World.setCell wput
  congr 1
  apply Array.ext_getElem?
  intro i
  by_cases hi : b = i
  · subst hi
    simp [Array.getElem?_modify, Array.getElem_modify, hb, he]
  · simp [Array.getElem?_modify, Array.getElem?_setIfInBounds_ne hi, hi]

omit Sg in
theorem oneCell_of {v : Value} (h : isCell v = true) : v.oneCell' = true := by cases v <;> first | rfl | cases h

omit Sg in
theorem run_storeRow {P : Program} (b o : Nat) (e : TypeId) (fr : Nat × Nat) : ∀ (vs : List Value) (i : Nat) (c : Array Value) (w : World), w.heap[b]? = some (.cells c e fr) →
    (∀ off, off < c.size → ¬ (fr.1 ≤ off ∧ off < fr.2)) → o + i + vs.length ≤ c.size → (∀ v ∈ vs, isCell v = true) →
    (storeCells ⟨b, o, none⟩ vs i).run P w = .ok () (wput w b (.cells (setArr c (o + i) vs) e fr)) := by
  intro vs
  induction vs with
  | nil =>
    intro i c w h _ _ _
    rw [setArr_nil, wput_self h]
    simp [storeCells]
  | cons v vs ih =>
    intro i c w h hf hl hc
    have hlt : o + i < c.size := by simp at hl; omega
    have hcell : w.cell? ⟨b, o + i, none⟩ = some c[o + i] := by simp [cell_at h, hlt]
    have hfro : w.frozen? ⟨b, o + i, none⟩ = false := by
      have := hf (o + i) hlt
      simp only [World.frozen?, h]
      simp only [Bool.and_eq_false_iff, decide_eq_false_iff_not]
      by_cases h1 : fr.1 ≤ o + i
      · exact .inr fun h2 => this ⟨h1, h2⟩
      · exact .inl h1
    have hst : (store ((⟨b, o, none⟩ : Addr).add i) v).run P w = .ok () (wput w b (.cells (c.setIfInBounds (o + i) v) e fr)) := by
      rw [add_spot, run_store P w _ v _ (oneCell_of (hc v (by simp))), hcell]
      simp [hfro, setCell_wput v h]
    have hb : b < w.heap.size := (Array.getElem?_eq_some_iff.1 h).1
    have h' : (wput w b (.cells (c.setIfInBounds (o + i) v) e fr)).heap[b]? = some (.cells (c.setIfInBounds (o + i) v) e fr) := by rw [wput_get _ _ _ _ hb]; simp
    have := ih (i + 1) (c.setIfInBounds (o + i) v) _ h' (by simpa using hf) (by simp at hl ⊢; omega) (fun x hx => hc x (by simp [hx]))
    have e0 : setArr (c.setIfInBounds (o + i) v) (o + (i + 1)) vs = setArr c (o + i) (v :: vs) := by
      apply array_eq_of_toList
      simp only [setArr, Array.toList_setIfInBounds, List.length_cons]
      have hlt' : o + i < c.toList.length := by simpa using hlt
      rw [List.set_eq_take_append_cons_drop, if_pos hlt']
      have e1 : (c.toList.take (o + i) ++ v :: c.toList.drop (o + i + 1)).take (o + (i + 1)) = c.toList.take (o + i) ++ [v] := by
        rw [List.take_append]
        have : (c.toList.take (o + i)).length = o + i := by rw [List.length_take]; omega
        rw [this, show o + (i + 1) - (o + i) = 1 from by omega, List.take_of_length_le (by rw [this]; omega)]
        simp
      have e2 : (c.toList.take (o + i) ++ v :: c.toList.drop (o + i + 1)).drop (o + (i + 1) + vs.length) = c.toList.drop (o + i + (vs.length + 1)) := by
        rw [List.drop_append]
        have : (c.toList.take (o + i)).length = o + i := by rw [List.length_take]; omega
        rw [this, List.drop_of_length_le (by rw [this]; omega), show o + (i + 1) + vs.length - (o + i) = vs.length + 1 from by omega]
        simp [Nat.add_assoc, Nat.add_comm, Nat.add_left_comm]
      rw [e1, e2]
      simp
    simp only [storeCells, Sem.run_bind, hst, Result.andThen_ok, this, wput_wput, e0]

omit Sg in
/-- A piece of a row into which something was written. -/
theorem piece_set {c : Array Value} {d sa off : Nat} {vs : List Value} (h1 : off + vs.length ≤ sa) (h2 : d + sa ≤ c.size) :
    piece (setArr c (d + off) vs) d sa = (piece c d sa).take off ++ vs ++ (piece c d sa).drop (off + vs.length) := by
  have hc : c.toList.length = c.size := by simp
  apply List.ext_getElem?
  intro i
  have hlen : (piece c d sa).length = sa := by simp [piece]; omega
  have hlt : (c.toList.take (d + off)).length = d + off := by rw [List.length_take]; omega
  by_cases hi : i < sa
  · have l1 : (piece (setArr c (d + off) vs) d sa)[i]? = (setArr c (d + off) vs).toList[d + i]? := by
      unfold piece
      rw [List.getElem?_take_of_lt hi, List.getElem?_drop]
    have l2 : ∀ j, j < sa → (piece c d sa)[j]? = c.toList[d + j]? := by
      intro j hj
      unfold piece
      rw [List.getElem?_take_of_lt hj, List.getElem?_drop]
    rw [l1]
    show (c.toList.take (d + off) ++ vs ++ c.toList.drop (d + off + vs.length))[d + i]? = _
    have ht : ((piece c d sa).take off).length = off := by rw [List.length_take, hlen]; omega
    rw [List.append_assoc, List.append_assoc]
    by_cases ho : i < off
    · rw [List.getElem?_append_left (by omega), List.getElem?_take_of_lt (by omega), List.getElem?_append_left (by omega), List.getElem?_take_of_lt ho, l2 i hi]
    · have L : ∀ B : List Value, (c.toList.take (d + off) ++ B)[d + i]? = B[i - off]? := by
        intro B
        rw [List.getElem?_append_right (by omega), hlt]
        congr 1; omega
      have R : ∀ B : List Value, ((piece c d sa).take off ++ B)[i]? = B[i - off]? := by
        intro B
        rw [List.getElem?_append_right (by omega), ht]
      rw [L, R]
      by_cases hv : i - off < vs.length
      · rw [List.getElem?_append_left hv, List.getElem?_append_left hv]
      · have L2 : ∀ B : List Value, (vs ++ B)[i - off]? = B[i - off - vs.length]? := by
          intro B
          rw [List.getElem?_append_right (by omega)]
        rw [L2, L2, List.getElem?_drop, List.getElem?_drop, l2 _ (by omega)]
        congr 1; omega
  · rw [List.getElem?_eq_none, List.getElem?_eq_none]
    · simp [hlen]; omega
    · unfold piece; rw [List.length_take]; omega

section
variable {P : Program} {ι : Inj} {s : St} {w : World}

/-- Cells written into a row that the shadow holds. -/
theorem SR.write (hs : SR ι s w) {n : Nat} {cs : List Value} {esz : Option Nat} {ni : NI} (hn : s.heap.get n = some (.cells cs esz false)) (hni : ι n = some ni)
    {off : Nat} {vs vs' c1 : List Value} (hset : setN cs off vs = some c1) (hv : LR ι vs vs') (hcell : allV isCell vs = true) :
    ∃ w', (∀ P, (storeCells ⟨ni.blk, ni.d + off, none⟩ vs').run P w = .ok () w') ∧ Post ι s w ι { s with heap := s.heap.set n (.cells c1 esz false) } w' := by
  obtain ⟨c, e, fr, h1, h2, h3, h4, h5, h6, h7, h8⟩ := hs.cells hn hni
  obtain ⟨g1, g2⟩ := setN_eq hset
  have hvl := hv.length
  have hcell' : ∀ v ∈ vs', isCell v = true := by
    have key : ∀ {a b : List Value}, LR ι a b → allV isCell a = true → ∀ v ∈ b, isCell v = true := by
      intro a b hab
      induction a generalizing b with
      | nil => intro _ v hv; cases hab; cases hv
      | cons x a ih =>
        intro ha v hv
        cases hab with
        | cons _ y _ ys hy hys =>
          simp only [allV, Bool.and_eq_true] at ha
          rcases List.mem_cons.1 hv with rfl | hv
          · have := ha.1
            cases hy <;> first | rfl | (exact isCell_word (by assumption)) | (exact isCell_word (Sg.word _)) | (exact absurd this (by simp [isCell]))
          · exact ih hys ha.2 v hv
    exact key hv hcell
  refine ⟨wput w ni.blk (.cells (setArr c (ni.d + off) vs') e fr), ?_, ?_⟩
  · intro P
    have := run_storeRow (P := P) ni.blk (ni.d + off) e fr vs' 0 c w h1 (h6 rfl) (by omega) hcell'
    simpa using this
  · refine Post.write hs hn rfl hni rfl ?_ (wput_frozen h1 fun _ => rfl)
    have hb : ni.blk < w.heap.size := (Array.getElem?_eq_some_iff.1 h1).1
    refine ⟨setArr c (ni.d + off) vs', e, fr, by rw [wput_get _ _ _ _ hb]; simp, ?_, h3, ?_, ?_, ?_, h7, ?_⟩
    · rw [g1]; simp; omega
    · rw [setArr_size (by omega)]; exact h4
    · rw [piece_set (by omega) h4]
      have := setN_LR h5 hv hset
      exact this
    · rw [setArr_size (by omega)]; exact h6
    · intro k hk; rw [setArr_size (by omega)]; exact h8 k hk

end

omit Sg in
theorem writable_eq {s : St} {n : Nat} {cs : List Value} {esz : Option Nat} (h : writable s n = some (cs, esz)) : s.heap.get n = some (.cells cs esz false) := by
  unfold writable at h
  split at h
  · rename_i heq; cases h; exact heq
  · cases h

section
variable {E : Env} {P : Program} {ι : Inj} {ρ : Operand → Option Value} {ρ' : Operand → Value} {s s' : St} {w : World}

theorem does_store (hE : E.Ok P) (hρ : Env' ι ρ ρ') (hs : SR ι s w) {o : Oper} {t : TypeId} {x u : Operand} {v : Value} (ho : o.op = .store t x u) (h : achain E ρ o s = some (v, s')) :
    Does P ι s ρ' o v s' w := by
  unfold achain at h
  simp only [ho] at h
  cases hx : ρ x with
  | none => simp only [hx] at h; cases h
  | some a => cases hu : ρ u with
    | none => simp only [hx, hu] at h; cases a <;> (try cases h) <;> rename_i a <;> cases a <;> cases h
    | some uv =>
      simp only [hx, hu] at h
      cases a <;> (try simp only at h) <;> first | (cases h; done) | skip
      rename_i a
      cases a with
      | none => simp only at h; cases h
      | some a =>
        simp only at h
        cases hst : astore E s t a uv with
        | none => rw [hst] at h; cases h
        | some s1 =>
          simp only [hst] at h
          cases h
          unfold astore at hst
          cases ht : E.ty.get t with
          | none => simp only [ht] at hst; cases hst
          | some ti => cases hw : writable s a.block with
            | none => simp only [ht, hw] at hst; cases hst
            | some ce =>
              obtain ⟨cs, esz⟩ := ce
              simp only [ht, hw] at hst
              cases hc : (sizeIs ti.size (cellsOf uv) && allV isCell (cellsOf uv) && a.spot.isNone) with
              | false => rw [hc] at hst; cases hst
              | true =>
                rw [hc] at hst
                simp only [cond_true] at hst
                simp only [Bool.and_eq_true, sizeIs_iff] at hc
                cases hset : setN cs a.off (cellsOf uv) with
                | none => rw [hset] at hst; cases hst
                | some c1 =>
                  simp only [hset] at hst
                  cases hst
                  obtain ⟨n, off, ni, rfl, hni, hv'⟩ := (hρ _ _ hx).ptr_some
                  have hvc := (hρ _ _ hu).cells
                  obtain ⟨w', hrun, hpost⟩ := hs.write (writable_eq hw) hni hset hvc hc.1.2
                  have hsz : (ρ' u).cells.size = ti.size := by have := hvc.length; simp at this; omega
                  refine ⟨.skip, undef, w', ι, ?_, .inr ⟨rfl, rfl⟩, undef_VR ι, hpost⟩
                  unfold execOp
                  simp only [ho, hv']
                  simp [Instr.storeAt, Instr.sureAddr, storeVar, (hE.ty _ _ ht).run_size, hsz, hrun P]

end
end Go.Sh
