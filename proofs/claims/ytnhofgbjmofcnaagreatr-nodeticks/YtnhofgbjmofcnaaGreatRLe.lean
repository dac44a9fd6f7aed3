/-
  A shadow interpreter for the model's operations: writing into rows is met. (No program in it.) A shadow interpreter for the model's operations: maps that are written, iterators. (No program in it.) A shadow interpreter for the model's operations: append, copy, clear, delete; every operation that writes is met. (No program in it.) A shadow interpreter for the model's operations: every operation that writes is met. (No program in it.)
-/
import Derived.Test.YtnhofgbjmofcnaaGreatRLd

namespace Go.Sh
open Go

variable [Sg : Sig]

/-- The operation does what the shadow's does. -/
def Does (P : Program) (ι : Inj) (s : St) (ρ' : Operand → Value) (o : Oper) (v : Value) (s' : St) (w : World) : Prop :=
  ∃ (nx : Next) (v' : Value) (w' : World) (ι' : Inj), (execOp ρ' o).run P w = .ok nx w' ∧ (nx = .value v' ∨ nx = .skip ∧ v' = undef) ∧ VR ι' v v' ∧ Post ι s w ι' s' w'

def setArr (c : Array Value) (k : Nat) (vs : List Value) : Array Value := ⟨c.toList.take k ++ vs ++ c.toList.drop (k + vs.length)⟩

omit Sg in
theorem setArr_size {c : Array Value} {k : Nat} {vs : List Value} (h : k + vs.length ≤ c.size) : (setArr c k vs).size = c.size := by
  have : c.toList.length = c.size := by simp
  simp [setArr]; omega

omit Sg in
theorem setArr_nil (c : Array Value) (k : Nat) : setArr c k [] = c := by
  apply array_eq_of_toList; simp [setArr]

omit Sg in
theorem wput_self {w : World} {b : Nat} {o : Obj} (h : w.heap[b]? = some o) : wput w b o = w := by
  unfold wput
  have : w.heap.setIfInBounds b o = w.heap := by
    apply Array.ext_getElem?
    intro i
    obtain ⟨hb, he⟩ := Array.getElem?_eq_some_iff.1 h
    by_cases hi : b = i
    · subst hi; simp [hb, he]
    · rw [Array.getElem?_setIfInBounds_ne hi]
  rw [this]

omit Sg in
theorem wput_wput (w : World) (b : Nat) (o o' : Obj) : wput (wput w b o) b o' = wput w b o' := by
  unfold wput
  simp

omit Sg in
theorem setCell_wput {w : World} {b o : Nat} {c : Array Value} {e : TypeId} {fr : Nat × Nat} (v : Value) (h : w.heap[b]? = some (.cells c e fr)) :
    w.setCell ⟨b, o, none⟩ v = wput w b (.cells (c.setIfInBounds o v) e fr) := by
  obtain ⟨hb, he⟩ := Array.getElem?_eq_some_iff.1 h
  unfold World.setCell wput
  congr 1
  apply Array.ext_getElem?
  intro i
  by_cases hi : b = i
  · subst hi
    simp [Array.getElem?_modify, Array.getElem_modify, hb, he]
  · simp [Array.getElem?_modify, Array.getElem?_setIfInBounds_ne hi, hi]

omit Sg in
theorem oneCell_of {v : Value} (h : isCell v = true) : v.oneCell' = true := by cases v <;> first | rfl | cases h

omit Sg in
theorem run_storeRow {P : Program} (b o : Nat) (e : TypeId) (fr : Nat × Nat) : ∀ (vs : List Value) (i : Nat) (c : Array Value) (w : World), w.heap[b]? = some (.cells c e fr) →
    (∀ off, off < c.size → ¬ (fr.1 ≤ off ∧ off < fr.2)) → o + i + vs.length ≤ c.size → (∀ v ∈ vs, isCell v = true) →
    (storeCells ⟨b, o, none⟩ vs i).run P w = .ok () (wput w b (.cells (setArr c (o + i) vs) e fr)) := by
  intro vs
  induction vs with
  | nil =>
    intro i c w h _ _ _
    rw [setArr_nil, wput_self h]
    simp [storeCells]
  | cons v vs ih =>
    intro i c w h hf hl hc
    have hlt : o + i < c.size := by simp at hl; omega
    have hcell : w.cell? ⟨b, o + i, none⟩ = some c[o + i] := by simp [cell_at h, hlt]
    have hfro : w.frozen? ⟨b, o + i, none⟩ = false := by
      have := hf (o + i) hlt
      simp only [World.frozen?, h]
      simp only [Bool.and_eq_false_iff, decide_eq_false_iff_not]
      by_cases h1 : fr.1 ≤ o + i
      · exact .inr fun h2 => this ⟨h1, h2⟩
      · exact .inl h1
    have hst : (store ((⟨b, o, none⟩ : Addr).add i) v).run P w = .ok () (wput w b (.cells (c.setIfInBounds (o + i) v) e fr)) := by
      rw [add_spot, run_store P w _ v _ (oneCell_of (hc v (by simp))), hcell]
      simp [hfro, setCell_wput v h]
    have hb : b < w.heap.size := (Array.getElem?_eq_some_iff.1 h).1
    have h' : (wput w b (.cells (c.setIfInBounds (o + i) v) e fr)).heap[b]? = some (.cells (c.setIfInBounds (o + i) v) e fr) := by rw [wput_get _ _ _ _ hb]; simp
    have := ih (i + 1) (c.setIfInBounds (o + i) v) _ h' (by simpa using hf) (by simp at hl ⊢; omega) (fun x hx => hc x (by simp [hx]))
    have e0 : setArr (c.setIfInBounds (o + i) v) (o + (i + 1)) vs = setArr c (o + i) (v :: vs) := by
      apply array_eq_of_toList
      simp only [setArr, Array.toList_setIfInBounds, List.length_cons]
      have hlt' : o + i < c.toList.length := by simpa using hlt
      rw [List.set_eq_take_append_cons_drop, if_pos hlt']
      have e1 : (c.toList.take (o + i) ++ v :: c.toList.drop (o + i + 1)).take (o + (i + 1)) = c.toList.take (o + i) ++ [v] := by
        rw [List.take_append]
        have : (c.toList.take (o + i)).length = o + i := by rw [List.length_take]; omega
        rw [this, show o + (i + 1) - (o + i) = 1 from by omega, List.take_of_length_le (by rw [this]; omega)]
        simp
      have e2 : (c.toList.take (o + i) ++ v :: c.toList.drop (o + i + 1)).drop (o + (i + 1) + vs.length) = c.toList.drop (o + i + (vs.length + 1)) := by
        rw [List.drop_append]
        have : (c.toList.take (o + i)).length = o + i := by rw [List.length_take]; omega
        rw [this, List.drop_of_length_le (by rw [this]; omega), show o + (i + 1) + vs.length - (o + i) = vs.length + 1 from by omega]
        simp [Nat.add_assoc, Nat.add_comm, Nat.add_left_comm]
      rw [e1, e2]
      simp
    simp only [storeCells, Sem.run_bind, hst, Result.andThen_ok, this, wput_wput, e0]

omit Sg in
/-- A piece of a row into which something was written. -/
theorem piece_set {c : Array Value} {d sa off : Nat} {vs : List Value} (h1 : off + vs.length ≤ sa) (h2 : d + sa ≤ c.size) :
    piece (setArr c (d + off) vs) d sa = (piece c d sa).take off ++ vs ++ (piece c d sa).drop (off + vs.length) := by
  have hc : c.toList.length = c.size := by simp
  apply List.ext_getElem?
  intro i
  have hlen : (piece c d sa).length = sa := by simp [piece]; omega
  have hlt : (c.toList.take (d + off)).length = d + off := by rw [List.length_take]; omega
  by_cases hi : i < sa
  · have l1 : (piece (setArr c (d + off) vs) d sa)[i]? = (setArr c (d + off) vs).toList[d + i]? := by
      unfold piece
      rw [List.getElem?_take_of_lt hi, List.getElem?_drop]
    have l2 : ∀ j, j < sa → (piece c d sa)[j]? = c.toList[d + j]? := by
      intro j hj
      unfold piece
      rw [List.getElem?_take_of_lt hj, List.getElem?_drop]
    rw [l1]
    show (c.toList.take (d + off) ++ vs ++ c.toList.drop (d + off + vs.length))[d + i]? = _
    have ht : ((piece c d sa).take off).length = off := by rw [List.length_take, hlen]; omega
    rw [List.append_assoc, List.append_assoc]
    by_cases ho : i < off
    · rw [List.getElem?_append_left (by omega), List.getElem?_take_of_lt (by omega), List.getElem?_append_left (by omega), List.getElem?_take_of_lt ho, l2 i hi]
    · have L : ∀ B : List Value, (c.toList.take (d + off) ++ B)[d + i]? = B[i - off]? := by
        intro B
        rw [List.getElem?_append_right (by omega), hlt]
        congr 1; omega
      have R : ∀ B : List Value, ((piece c d sa).take off ++ B)[i]? = B[i - off]? := by
        intro B
        rw [List.getElem?_append_right (by omega), ht]
      rw [L, R]
      by_cases hv : i - off < vs.length
      · rw [List.getElem?_append_left hv, List.getElem?_append_left hv]
      · have L2 : ∀ B : List Value, (vs ++ B)[i - off]? = B[i - off - vs.length]? := by
          intro B
          rw [List.getElem?_append_right (by omega)]
        rw [L2, L2, List.getElem?_drop, List.getElem?_drop, l2 _ (by omega)]
        congr 1; omega
  · rw [List.getElem?_eq_none, List.getElem?_eq_none]
    · simp [hlen]; omega
    · unfold piece; rw [List.length_take]; omega

theorem LR.isCell {ι : Inj} : ∀ {a b : List Value}, LR ι a b → allV isCell a = true → ∀ v ∈ b, isCell v = true
  | [], _, hab, _, v, hv => by cases hab; cases hv
  | x :: a, _, hab, ha, v, hv => by
    cases hab with
    | cons _ y _ ys hy hys =>
      simp only [allV, Bool.and_eq_true] at ha
      rcases List.mem_cons.1 hv with rfl | hv
      · have := ha.1
        cases hy <;> first | rfl | (exact isCell_word (by assumption)) | (exact isCell_word (Sg.word _)) | (exact absurd this (by simp [Sh.isCell]))
      · exact hys.isCell ha.2 v hv

section
variable {P : Program} {ι : Inj} {s : St} {w : World}

/-- Cells written into a row that the shadow holds. -/
theorem SR.write (hs : SR ι s w) {n : Nat} {cs : List Value} {esz : Option Nat} {ni : NI} (hn : s.heap.get n = some (.cells cs esz false)) (hni : ι n = some ni)
    {off : Nat} {vs vs' c1 : List Value} (hset : setN cs off vs = some c1) (hv : LR ι vs vs') (hcell : allV isCell vs = true) :
    ∃ w', (∀ P, (storeCells ⟨ni.blk, ni.d + off, none⟩ vs').run P w = .ok () w') ∧ Post ι s w ι { s with heap := s.heap.set n (.cells c1 esz false) } w' := by
  obtain ⟨c, e, fr, h1, h2, h3, h4, h5, h6, h7, h8⟩ := hs.cells hn hni
  obtain ⟨g1, g2⟩ := setN_eq hset
  have hvl := hv.length
  have hcell' : ∀ v ∈ vs', isCell v = true := by
    have key : ∀ {a b : List Value}, LR ι a b → allV isCell a = true → ∀ v ∈ b, isCell v = true := by
      intro a b hab
      induction a generalizing b with
      | nil => intro _ v hv; cases hab; cases hv
      | cons x a ih =>
        intro ha v hv
        cases hab with
        | cons _ y _ ys hy hys =>
          simp only [allV, Bool.and_eq_true] at ha
          rcases List.mem_cons.1 hv with rfl | hv
          · have := ha.1
            cases hy <;> first | rfl | (exact isCell_word (by assumption)) | (exact isCell_word (Sg.word _)) | (exact absurd this (by simp [isCell]))
          · exact ih hys ha.2 v hv
    exact key hv hcell
  refine ⟨wput w ni.blk (.cells (setArr c (ni.d + off) vs') e fr), ?_, ?_⟩
  · intro P
    have := run_storeRow (P := P) ni.blk (ni.d + off) e fr vs' 0 c w h1 (h6 rfl) (by omega) hcell'
    simpa using this
  · refine Post.write hs hn rfl hni rfl ?_ (wput_frozen h1 fun _ => rfl)
    have hb : ni.blk < w.heap.size := (Array.getElem?_eq_some_iff.1 h1).1
    refine ⟨setArr c (ni.d + off) vs', e, fr, by rw [wput_get _ _ _ _ hb]; simp, ?_, h3, ?_, ?_, ?_, h7, ?_⟩
    · rw [g1]; simp; omega
    · rw [setArr_size (by omega)]; exact h4
    · rw [piece_set (by omega) h4]
      have := setN_LR h5 hv hset
      exact this
    · rw [setArr_size (by omega)]; exact h6
    · obtain ⟨g2, h8⟩ := h8
      refine ⟨by rw [setArr_size (by omega)]; exact g2, fun k hk => ?_⟩
      obtain ⟨g1, g3⟩ := h8 k hk
      refine ⟨g1, ?_⟩
      intro v hv
      simp only [setArr, List.mem_append] at hv
      rcases hv with (hv | hv) | hv
      · exact g3 v (List.mem_of_mem_take hv)
      · exact hcell' v hv
      · exact g3 v (List.mem_of_mem_drop hv)

end

omit Sg in
theorem writable_eq {s : St} {n : Nat} {cs : List Value} {esz : Option Nat} (h : writable s n = some (cs, esz)) : s.heap.get n = some (.cells cs esz false) := by
  unfold writable at h
  split at h
  · rename_i heq; cases h; exact heq
  · cases h

section
variable {E : Env} {P : Program} {ι : Inj} {ρ : Operand → Option Value} {ρ' : Operand → Value} {s s' : St} {w : World}

theorem does_store (hE : E.Ok P) (hρ : Env' ι ρ ρ') (hs : SR ι s w) {o : Oper} {t : TypeId} {x u : Operand} {v : Value} (ho : o.op = .store t x u) (h : achain E ρ o s = some (v, s')) :
    Does P ι s ρ' o v s' w := by
  unfold achain at h
  simp only [ho] at h
  cases hx : ρ x with
  | none => simp only [hx] at h; cases h
  | some a => cases hu : ρ u with
    | none => simp only [hx, hu] at h; cases a <;> (try cases h) <;> rename_i a <;> cases a <;> cases h
    | some uv =>
      simp only [hx, hu] at h
      cases a <;> (try simp only at h) <;> first | (cases h; done) | skip
      rename_i a
      cases a with
      | none => simp only at h; cases h
      | some a =>
        simp only at h
        cases hst : astore E s t a uv with
        | none => rw [hst] at h; cases h
        | some s1 =>
          simp only [hst] at h
          cases h
          unfold astore at hst
          cases ht : E.ty.get t with
          | none => simp only [ht] at hst; cases hst
          | some ti => cases hw : writable s a.block with
            | none => simp only [ht, hw] at hst; cases hst
            | some ce =>
              obtain ⟨cs, esz⟩ := ce
              simp only [ht, hw] at hst
              cases hc : (sizeIs ti.size (cellsOf uv) && allV isCell (cellsOf uv) && a.spot.isNone) with
              | false => rw [hc] at hst; cases hst
              | true =>
                rw [hc] at hst
                simp only [cond_true] at hst
                simp only [Bool.and_eq_true, sizeIs_iff] at hc
                cases hset : setN cs a.off (cellsOf uv) with
                | none => rw [hset] at hst; cases hst
                | some c1 =>
                  simp only [hset] at hst
                  cases hst
                  obtain ⟨n, off, ni, rfl, hni, hv'⟩ := (hρ _ _ hx).ptr_some
                  have hvc := (hρ _ _ hu).cells
                  obtain ⟨w', hrun, hpost⟩ := hs.write (writable_eq hw) hni hset hvc hc.1.2
                  have hsz : (ρ' u).cells.size = ti.size := by have := hvc.length; simp at this; omega
                  refine ⟨.skip, undef, w', ι, ?_, .inr ⟨rfl, rfl⟩, undef_VR ι, hpost⟩
                  unfold execOp
                  simp only [ho, hv']
                  simp [Instr.storeAt, Instr.sureAddr, storeVar, (hE.ty _ _ ht).run_size, hsz, hrun P]

end
end Go.Sh

namespace Go.Sh
open Go

variable [Sg : Sig]

omit Sg in
theorem bytes_self (b : ByteArray) : (b == b) = true := by rw [beqBytes]; simp

omit Sg in
theorem keyPlain_same : ∀ (n : Nat) {v : Value}, keyPlain n v = true → ∀ d, n ≤ d → Instr.sameBits d v v = true := by
  intro n
  induction n with
  | zero =>
    intro v h d _
    cases v <;> simp [keyPlain] at h <;> cases d <;> simp [Instr.sameBits, bytes_self]
  | succ n ih =>
    intro v h d hd
    obtain ⟨d, rfl⟩ : ∃ k, d = k + 1 := ⟨d - 1, by omega⟩
    cases v <;> simp [keyPlain] at h <;> simp [Instr.sameBits, bytes_self]
    rename_i cs
    rw [allV_mem] at h
    intro a b hab
    have := List.of_mem_zip hab
    have he : a = b := by
      have key : ∀ (l : List Value) (p : Value × Value), p ∈ l.zip l → p.1 = p.2 := by
        intro l
        induction l with
        | nil => intro p hp; simp at hp
        | cons x l ih => intro p hp; simp at hp; rcases hp with rfl | hp; rfl; exact ih p hp
      exact key _ _ hab
    subst he
    exact ih (h a this.1) d (by omega)

theorem keyPlain_VR {ι : Inj} : ∀ (n : Nat) {v v' : Value}, keyPlain n v = true → VR ι v v' → v' = v := by
  intro n
  induction n with
  | zero =>
    intro v v' h hv
    cases v <;> simp [keyPlain] at h <;> cases hv <;> rfl
  | succ n ih =>
    intro v v' h hv
    cases v <;> simp [keyPlain] at h
    · cases hv; rfl
    · cases hv; rfl
    · cases hv; rfl
    · rw [allV_mem] at h
      cases hv with
      | agg xs ys hl =>
        have : ys = xs := by
          simp only at h
          induction hl using LR.rec (motive_1 := fun _ _ _ => True) with
          | nil => rfl
          | cons x y xs ys hx hs _ ihs => rw [ih (h x (by simp)) hx, ihs (fun v hv => h v (by simp [hv]))]
          | _ => trivial
        rw [this]

theorem ER.append {ι : Inj} {es fs gs hs : List MapEntry} (h : ER ι es fs) (h' : ER ι gs hs) : ER ι (es ++ gs) (fs ++ hs) := by
  induction h with
  | nil => exact h'
  | cons e f es fs hk hv hb _ ih => exact .cons e f _ _ hk hv hb ih

theorem ER.setI {ι : Inj} {es fs : List MapEntry} (h : ER ι es fs) {v v' : Value} (hv : VR ι v v') : ∀ (i : Nat) {k : Value}, (∀ f, fs[i]? = some f → f.key = k) →
    ER ι (Sh.setI v es i) (fs.modify i fun e => { e with key := k, val := v' }) := by
  induction h with
  | nil => intro i k _; simp [Sh.setI, List.modify]; cases i <;> exact .nil
  | cons e f es fs hk hv1 hb hs ih =>
    intro i k hkey
    cases i with
    | zero =>
      have := hkey f (by simp)
      simp only [Sh.setI, List.modify_zero_cons]
      exact .cons _ _ _ _ (by simpa [← this] using hk) hv hb hs
    | succ i =>
      simp only [Sh.setI, List.modify_succ_cons]
      exact .cons _ _ _ _ hk hv1 hb (ih i fun f hf => hkey f (by simpa using hf))

theorem ER.delI {ι : Inj} {es fs : List MapEntry} (h : ER ι es fs) : ∀ (i : Nat), ER ι (Sh.delI es i) (fs.eraseIdx i) := by
  induction h with
  | nil => intro i; simp [Sh.delI]; exact .nil
  | cons e f es fs hk hv hb hs ih =>
    intro i
    cases i with
    | zero => simpa [Sh.delI] using hs
    | succ i => simpa [Sh.delI] using ER.cons _ _ _ _ hk hv hb (ih i)

omit Sg in
theorem setI_born (v : Value) : ∀ (es : List MapEntry) (i : Nat), (setI v es i).map (·.born) = es.map (·.born)
  | [], i => by simp [setI]
  | e :: es, 0 => by simp [setI]
  | e :: es, i + 1 => by simp [setI, setI_born v es i]

omit Sg in
theorem delI_sub : ∀ (es : List MapEntry) (i : Nat), (delI es i).Sublist es
  | [], i => by simp [delI]
  | e :: es, 0 => by simp [delI]
  | e :: es, i + 1 => by simpa [delI] using (delI_sub es i).cons_cons e

omit Sg in
theorem StampedL.iff {es : List MapEntry} {clock : Nat} : StampedL es clock ↔ (∀ b ∈ es.map (·.born), b < clock) ∧ (es.map (·.born)).Nodup :=
  ⟨fun h => ⟨fun b hb => by obtain ⟨e, he, rfl⟩ := List.mem_map.1 hb; exact h.lt e he, h.nodup⟩, fun h => ⟨fun e he => h.1 _ (List.mem_map.2 ⟨e, he, rfl⟩), h.2⟩⟩

omit Sg in
theorem StampedL.setI {es : List MapEntry} {clock : Nat} (h : StampedL es clock) (v : Value) (i : Nat) : StampedL (Sh.setI v es i) clock := by
  rw [StampedL.iff, setI_born, ← StampedL.iff]; exact h

omit Sg in
theorem StampedL.sub {es fs : List MapEntry} {clock : Nat} (h : StampedL es clock) (hs : fs.Sublist es) : StampedL fs clock :=
  ⟨fun e he => h.lt e (hs.subset he), h.nodup.sublist (hs.map _)⟩

omit Sg in
theorem StampedL.push {es : List MapEntry} {clock : Nat} (h : StampedL es clock) (k v : Value) : StampedL (es ++ [{ key := k, val := v, born := clock }]) (clock + 1) := by
  refine ⟨fun e he => ?_, ?_⟩
  · rcases List.mem_append.1 he with he | he
    · have := h.lt e he; omega
    · simp at he; subst he; simp
  · rw [List.map_append, List.nodup_append]
    refine ⟨h.nodup, by simp, ?_⟩
    intro a ha b hb
    obtain ⟨e, he, rfl⟩ := List.mem_map.1 ha
    simp at hb
    have := h.lt e he
    omega

section
variable {E : Env} {P : Program} {ι : Inj} {ρ : Operand → Option Value} {ρ' : Operand → Value} {s s' : St} {w : World}

omit Sg in
theorem run_setObj {b : Nat} {o1 o2 : Obj} (h : w.heap[b]? = some o1) (hc : ∀ c e f, o1 ≠ .cells c e f) : (setObj b o2).run P w = .ok () (wput w b o2) := by
  cases o1 <;> simp [setObj, Sem.run, h, wput]
  rename_i c e f
  exact absurd rfl (hc c e f)

theorem SR.mapSet (hs : SR ι s w) {n : Nat} {es es1 : List MapEntry} {clock clock1 : Nat} {es1' : Array MapEntry} {ni : NI} (hn : s.heap.get n = some (.map es clock)) (hni : ι n = some ni) (he : ER ι es1 es1'.toList) (hst : StampedL es1 clock1) :
    Post ι s w ι { s with heap := s.heap.set n (.map es1 clock1) } (wput w ni.blk (.map es1' clock1)) := by
  obtain ⟨es', h1, h2⟩ := hs.map hn hni
  have hb : ni.blk < w.heap.size := (Array.getElem?_eq_some_iff.1 h1).1
  exact Post.write hs hn rfl hni rfl ⟨es1', by rw [wput_get _ _ _ _ hb]; simp, he, hst⟩ (wput_frozen h1 fun _ => rfl)

theorem amapset_run (hE : E.Ok P) (hs : SR ι s w) {t : Nat} {m k v m' k' v' : Value} (h : amapset E s t m k v = some s') (hm : VR ι m m') (hk : VR ι k k') (hv : VR ι v v') :
    ∃ w', (Instr.mapUpdate t m' k' v').run P w = .ok () w' ∧ Post ι s w ι s' w' := by
  unfold amapset at h
  cases ht : E.ty.get t with
  | none => rw [ht] at h; cases h
  | some ti =>
    simp only [ht] at h
    have hu := (hE.ty _ _ ht).und
    split at h
    · rename_i kt et r hd; rw [hd] at hu
      obtain ⟨ni, hni, rfl⟩ := hm.map_some
      cases hg : s.heap.get r with
      | none => rw [hg] at h; cases h
      | some ob =>
        rw [hg] at h
        cases ob <;> (try simp only at h) <;> first | (cases h; done) | skip
        rename_i es clock
        obtain ⟨es', hw, hes⟩ := hs.map hg hni
        cases hok : keyOk E 6 kt k with
        | false => rw [hok] at h; cases h
        | true =>
          simp only [hok, cond_true] at h
          have hck := keyOk_run hE (w := w) false 6 hok hk 10000 (by omega)
          have hnc : ∀ c e f, (Obj.map es' clock) ≠ .cells c e f := by intros; simp
          cases hf : findI E s kt k es 0 with
          | none => rw [hf] at h; cases h
          | some ro =>
            simp only [hf] at h
            obtain ⟨r', hr1, hr2⟩ := findKey_run hE hs hk hok hes hf
            rcases hr2 with ⟨rfl, rfl⟩ | ⟨j, f, rfl, hf2, rfl⟩
            · simp only at h; cases h
              refine ⟨_, ?_, hs.mapSet hg hni (es1' := es'.push { key := k', val := v', born := clock }) (by simpa using hes.append (ER.cons { key := k, val := v, born := clock } { key := k', val := v', born := clock } [] [] hk hv rfl .nil)) ((hs.stamped hg).push k v)⟩
              simp only [Instr.mapUpdate, Sem.run_bind, run_underlying hu, Result.andThen_ok, run_getMap hw, hck, hr1]
              exact run_setObj hw hnc
            · simp only [Nat.zero_add] at h
              cases hej : es[j]? with
              | none => rw [hej] at h; cases h
              | some e =>
                simp only [hej] at h
                cases hsm : (keyPlain 6 k && sameV e.key k) with
                | false => rw [hsm] at h; cases h
                | true =>
                  rw [hsm] at h
                  simp only [cond_true] at h
                  cases h
                  simp only [Bool.and_eq_true] at hsm
                  obtain ⟨f', hf3, hkey, hval, hborn⟩ := hes.get hej
                  rw [hf2] at hf3; cases hf3
                  have ek : e.key = k := sameV_eq hsm.2
                  have ek' : k' = k := keyPlain_VR 6 hsm.1 hk
                  have ef : f.key = k := keyPlain_VR 6 hsm.1 (ek ▸ hkey)
                  have hft : es'[j]? = some f := by simpa using hf2
                  refine ⟨_, ?_, hs.mapSet hg hni (es1' := es'.modify j fun e => { e with key := k', val := v' }) ?_ ((hs.stamped hg).setI v j)⟩
                  · simp only [Instr.mapUpdate, Sem.run_bind, run_underlying hu, Result.andThen_ok, run_getMap hw, hck, hr1]
                    have : (Instr.keyThatStays (((es'[0 + j]?).map (·.key)).getD k') k').run P w = .ok k' w := by
                      rw [Nat.zero_add, hft]
                      simp only [Option.map_some, Option.getD_some, ef, ek', Instr.keyThatStays, keyPlain_same 6 hsm.1 10000 (by omega)]
                      rfl
                    rw [this]
                    simp only [Result.andThen_ok, Nat.zero_add]
                    exact run_setObj hw hnc
                  · have := hes.setI hv j (k := k') (fun f0 hf0 => by rw [hf2] at hf0; cases hf0; rw [ef, ek'])
                    simpa using this
    · cases h

theorem does_mapUpdate (hE : E.Ok P) (hρ : Env' ι ρ ρ') (hs : SR ι s w) {o : Oper} {t : TypeId} {m k u : Operand} {v : Value} (ho : o.op = .mapUpdate t m k u ∨ o.op = .insert t m k u) (h : achain E ρ o s = some (v, s')) :
    Does P ι s ρ' o v s' w := by
  have h' : (match ρ m, ρ k, ρ u with
    | some vm, some vk, some vv => match amapset E s t vm vk vv with
      | some s' => some (undef, s')
      | none => none
    | _, _, _ => none) = some (v, s') := by
    unfold achain at h
    rcases ho with ho | ho <;> (simp only [ho] at h; exact h)
  cases hm : ρ m with
  | none => rw [hm] at h'; cases h'
  | some vm => cases hk : ρ k with
    | none => rw [hm, hk] at h'; cases h'
    | some vk => cases hu : ρ u with
      | none => rw [hm, hk, hu] at h'; cases h'
      | some vv =>
        rw [hm, hk, hu] at h'
        simp only at h'
        cases ha : amapset E s t vm vk vv with
        | none => rw [ha] at h'; cases h'
        | some s1 =>
          rw [ha] at h'
          cases h'
          obtain ⟨w', h1, h2⟩ := amapset_run (P := P) hE hs ha (hρ _ _ hm) (hρ _ _ hk) (hρ _ _ hu)
          refine ⟨.skip, undef, w', ι, ?_, .inr ⟨rfl, rfl⟩, undef_VR ι, h2⟩
          unfold execOp
          rcases ho with ho | ho <;> (simp only [ho]; simp [h1])

theorem does_range (hE : E.Ok P) (hρ : Env' ι ρ ρ') (hs : SR ι s w) {o : Oper} {t : TypeId} {x : Operand} {v : Value} (ho : o.op = .range t x) (h : achain E ρ o s = some (v, s')) :
    Does P ι s ρ' o v s' w := by
  unfold achain at h
  simp only [ho] at h
  cases ht : E.ty.get t with
  | none => rw [ht] at h; cases h
  | some ti => cases hx : ρ x with
    | none => rw [ht, hx] at h; cases h
    | some a =>
      simp only [ht, hx] at h
      have hu := (hE.ty _ _ ht).und
      have va := hρ _ _ hx
      have hnext : ι s.next = none := by
        cases hg : ι s.next with
        | none => rfl
        | some mi => have := hs.fresh _ _ hg; omega
      split at h
      · rename_i hd; rw [hd] at hu; cases h
        generalize hy : ρ' x = y at va
        cases va
        refine ⟨_, .pointer (some ⟨w.heap.size, 0, none⟩), wpush w (.mapIter none 0 #[] 0), upd ι s.next ⟨w.heap.size, 0, 0, 0, none⟩, ?_, .inl rfl, ?_, ?_⟩
        · unfold execOp; simp only [ho, hy]
          simp only [Instr.range, Sem.run_bind, run_underlying hu, Sem.run_pure, Result.andThen_ok, run_newObj]
          rfl
        · simpa using VR.ptr (ι := upd ι s.next ⟨w.heap.size, 0, 0, 0, none⟩) s.next 0 _ (upd_same ..)
        · exact Post.push hs rfl ⟨none, by rw [wpush_get]; simp, .none, rfl⟩ (fun _ => rfl)
      · rename_i m hd; rw [hd] at hu
        cases hg : s.heap.get m with
        | none => rw [hg] at h; cases h
        | some ob =>
          rw [hg] at h
          cases ob <;> (try simp only at h) <;> first | (cases h; done) | skip
          rename_i es clock
          cases h
          obtain ⟨mi, hmi, hy⟩ := va.map_some
          obtain ⟨es', hw, hes⟩ := hs.map hg hmi
          refine ⟨_, .pointer (some ⟨w.heap.size, 0, none⟩), wpush w (.mapIter (some mi.blk) clock #[] clock), upd ι s.next ⟨w.heap.size, 0, 0, 0, none⟩, ?_, .inl rfl, ?_, ?_⟩
          · unfold execOp; simp only [ho, hy]
            simp only [Instr.range, Sem.run_bind, run_underlying hu, Sem.run_pure, Result.andThen_ok, run_newObj, run_getMap hw]
            rfl
          · simpa using VR.ptr (ι := upd ι s.next ⟨w.heap.size, 0, 0, 0, none⟩) s.next 0 _ (upd_same ..)
          · refine Post.push hs rfl ⟨some mi.blk, by rw [wpush_get]; simp, .some m mi ?_, rfl⟩ (fun _ => rfl)
            exact Ext.upd _ hnext m mi hmi
      · cases h

theorem ER.filter {es fs : List MapEntry} (h : ER ι es fs) (p : Nat → Bool) : ER ι (es.filter fun e => p e.born) (fs.filter fun e => p e.born) := by
  induction h with
  | nil => exact .nil
  | cons e f es fs hk hv hb hs ih =>
    simp only [List.filter_cons, hb]
    split
    · exact .cons _ _ _ _ hk hv hb ih
    · exact ih

theorem ER.all {es fs : List MapEntry} (h : ER ι es fs) (p : Nat → Bool) : (es.all fun e => p e.born) = (fs.all fun e => p e.born) := by
  induction h with
  | nil => rfl
  | cons e f es fs hk hv hb hs ih => simp only [List.all_cons, hb, ih]

theorem does_next (hρ : Env' ι ρ ρ') (hs : SR ι s w) {o : Oper} {x : Operand} {v : Value} (ho : o.op = .next x false) (h : achain E ρ o s = some (v, s')) :
    Does P ι s ρ' o v s' w := by
  unfold achain at h
  simp only [ho] at h
  cases hx : ρ x with
  | none => rw [hx] at h; cases h
  | some a =>
    rw [hx] at h
    cases a <;> (try simp only at h) <;> first | (cases h; done) | skip
    rename_i a
    cases a with
    | none => cases h
    | some a =>
      simp only at h
      obtain ⟨n, off, ni, rfl, hni, hv'⟩ := (hρ _ _ hx).ptr_some
      cases ho0 : Nat.beq off 0 with
      | false => simp only [ho0, cond_false] at h; cases h
      | true =>
        simp only [ho0, cond_true] at h
        simp only [nat_beq_eq, decide_eq_true_eq] at ho0
        subst ho0
        cases hg : s.heap.get n with
        | none => rw [hg] at h; cases h
        | some ob =>
          rw [hg] at h
          cases ob <;> (try simp only at h) <;> first | (cases h; done) | skip
          rename_i m since seen last
          obtain ⟨mi, h1, h2⟩ := hs.obj n _ hg
          rw [hni] at h1; cases h1
          obtain ⟨m', hw, hm, hd0⟩ := h2
          have hgi : (getObj ni.blk).run P w = .ok (.mapIter m' since ⟨seen⟩ last) w := by simp [getObj, Sem.run, hw]
          have e0 : ni.d + 0 = 0 := by omega
          cases hm with
          | none =>
            simp only at h; cases h
            refine ⟨_, .tuple #[.bool false], w, ι, ?_, .inl rfl, .tuple _ _ (.cons _ _ _ _ (.bool _) .nil), Post.refl hs⟩
            unfold execOp; simp only [ho, hv', e0]
            simp [Instr.next, hgi]
          | some mm mmi hmi =>
            simp only at h
            cases hgm : s.heap.get mm with
            | none => rw [hgm] at h; cases h
            | some om =>
              rw [hgm] at h
              cases om <;> (try simp only at h) <;> first | (cases h; done) | skip
              rename_i es clock
              obtain ⟨es', hwm, hes⟩ := hs.map hgm hmi
              cases hbad : (!seen.isEmpty && !es.isEmpty && es.all (fun e => Nat.ble last e.born)) with
              | true => rw [hbad] at h; cases h
              | false =>
                simp only [hbad, cond_false] at h
                have hbad' : (!(⟨seen⟩ : Array Nat).isEmpty && !es'.isEmpty && es'.all (fun e => decide (e.born ≥ last))) = false := by
                  have h1 : es'.isEmpty = es.isEmpty := by
                    have := hes.length
                    cases es with
                    | nil =>
                      have : es' = #[] := Array.eq_empty_of_size_eq_zero (by simpa using this.symm)
                      simp [this]
                    | cons =>
                      cases hh : es'.isEmpty with
                      | false => rfl
                      | true =>
                        simp at hh
                        subst hh
                        simp at this
                  have h2 : (es'.all fun e => decide (e.born ≥ last)) = (es.all fun e => Nat.ble last e.born) := by
                    have := hes.all (fun b => Nat.ble last b)
                    rw [this, ← Array.all_toList]
                    congr 1
                    funext e
                    cases hb : Nat.ble last e.born
                    · simp; exact Nat.lt_of_not_le fun hle => by rw [Nat.ble_eq_true_of_le hle] at hb; cases hb
                    · simp; exact Nat.le_of_ble_eq_true hb
                  rw [h1, h2]
                  simpa using hbad
                have hleft := hes.filter (fun b => !seen.contains b)
                have hl' : (es'.filter fun e => !(⟨seen⟩ : Array Nat).contains e.born).toList = es'.toList.filter fun e => !seen.contains e.born := by simp
                cases hf : es.filter (fun e => !seen.contains e.born) with
                | nil =>
                  rw [hf] at h hleft
                  simp only at h; cases h
                  generalize hfl : es'.toList.filter (fun e => !seen.contains e.born) = fl at hleft
                  cases hleft
                  rw [hfl] at hl'
                  have hemp : (es'.filter fun e => !(⟨seen⟩ : Array Nat).contains e.born) = #[] := Array.ext' (by simpa using hl')
                  refine ⟨_, .tuple #[.bool false], w, ι, ?_, .inl rfl, .tuple _ _ (.cons _ _ _ _ (.bool _) .nil), Post.refl hs⟩
                  unfold execOp; simp only [ho, hv', e0]
                  simp only [Instr.next, Sem.run_bind, hgi, Result.andThen_ok, run_getMap hwm]
                  rw [if_neg (by rw [hbad']; simp), hemp]
                  simp [Question.forced]
                | cons e rest =>
                  cases rest with
                  | cons _ _ => rw [hf] at h; cases h
                  | nil =>
                    rw [hf] at h hleft
                    simp only at h
                    cases hbl : Nat.blt e.born since with
                    | false => rw [hbl] at h; cases h
                    | true =>
                      simp only [hbl, cond_true] at h
                      cases h
                      generalize hfl : es'.toList.filter (fun e => !seen.contains e.born) = fl at hleft
                      cases hleft with
                      | cons _ f _ fs hk hvv hb hs0 =>
                        cases hs0
                        rw [hfl] at hl'
                        have hone : (es'.filter fun e => !(⟨seen⟩ : Array Nat).contains e.born) = #[f] := Array.ext' (by simpa using hl')
                        have hlt : f.born < since := by
                          rw [← hb]
                          have : Nat.ble (e.born + 1) since = true := hbl
                          exact Nat.le_of_ble_eq_true this
                        have hbk : ni.blk < w.heap.size := (Array.getElem?_eq_some_iff.1 hw).1
                        refine ⟨_, .tuple #[.bool true, f.key, f.val], wput w ni.blk (.mapIter (some mmi.blk) since ((⟨seen⟩ : Array Nat).push f.born) clock), ι, ?_, .inl rfl,
                          .tuple _ _ (.cons _ _ _ _ (.bool _) (.cons _ _ _ _ hk (.cons _ _ _ _ hvv .nil))), ?_⟩
                        · unfold execOp; simp only [ho, hv', e0]
                          simp only [Instr.next, Sem.run_bind, hgi, Result.andThen_ok, run_getMap hwm]
                          rw [if_neg (by rw [hbad']; simp), hone]
                          have hset : ∀ o2, (setObj ni.blk o2).run P w = .ok () (wput w ni.blk o2) := fun o2 => run_setObj hw (by intros; simp)
                          simp [Question.forced, hlt, hset]
                        · refine Post.write hs hg rfl hni rfl ⟨some mmi.blk, by rw [wput_get _ _ _ _ hbk]; simp [hb], .some mm mmi hmi, hd0⟩ (wput_frozen hw fun _ => rfl)

end
end Go.Sh

namespace Go.Sh
open Go

variable [Sg : Sig]

omit Sg in
theorem growBy_le (n : Nat) : ∀ (r c : Nat), 256 ≤ c → c < n → Builtin.growBy n r c ≤ 2 ^ r * n := by
  intro r
  induction r with
  | zero => intro c _ h; simp [Builtin.growBy]; omega
  | succ r ih =>
    intro c h1 h2
    unfold Builtin.growBy
    rw [if_neg (by omega)]
    by_cases h3 : c + (c + 768) / 4 < n
    · have := ih _ (by omega) h3
      have e : 2 ^ (r + 1) * n = 2 ^ r * n + 2 ^ r * n := by rw [Nat.pow_succ, Nat.mul_assoc, Nat.two_mul, Nat.mul_add]
      omega
    · have h4 : c + (c + 768) / 4 ≤ 2 * n := by omega
      have : Builtin.growBy n r (c + (c + 768) / 4) = c + (c + 768) / 4 := by
        cases r with
        | zero => rfl
        | succ r => unfold Builtin.growBy; rw [if_pos (by omega)]
      rw [this]
      have hp : 1 ≤ 2 ^ r := Nat.one_le_two_pow
      have e : 2 ^ (r + 1) * n = 2 ^ r * (2 * n) := by rw [Nat.pow_succ, Nat.mul_assoc]
      rw [e]
      calc c + (c + 768) / 4 ≤ 1 * (2 * n) := by omega
        _ ≤ 2 ^ r * (2 * n) := Nat.mul_le_mul_right _ hp

omit Sg in
theorem nextslicecap_le {n c : Nat} (h : c < n) : Builtin.nextslicecap n c ≤ 16 * n := by
  unfold Builtin.nextslicecap
  split
  · omega
  · split
    · omega
    · have := growBy_le n 4 c (by omega) h
      simpa using this

omit Sg in
theorem zeroCells_size (z : Array Value) (n : Nat) : (Builtin.zeroCells z n).size = n * z.size := by simp [Builtin.zeroCells]

omit Sg in
theorem zeroCells_eq (z : Array Value) (n : Nat) (hz : 0 < z.size) : Builtin.zeroCells z n = ⟨repN n z.toList⟩ := rep_eq n z hz

omit Sg in
theorem repN_mem {z : List Value} {v : Value} : ∀ {n : Nat}, v ∈ repN n z → v ∈ z
  | 0, h => by cases h
  | n + 1, h => by
    rcases List.mem_append.1 h with h | h
    · exact h
    · exact repN_mem h

section
variable {E : Env} {P : Program} {ι : Inj} {ρ : Operand → Option Value} {ρ' : Operand → Value} {s s' : St} {w : World}

theorem lenOf_run {x x' : Value} {n : Nat} (h : lenOf x = some n) (hx : VR ι x x') : (Builtin.lenOf x').run P w = .ok n w := by
  cases x <;> simp only [lenOf] at h <;> first | (cases h; done) | skip
  · cases h
    rw [hx.plain_eq.2.2 _ rfl]; simp [Builtin.lenOf]
  · cases h
    cases hx <;> simp [Builtin.lenOf]

/-- Whatever comes out of an append's row is a cell. -/
def CellsIn (s : St) (x : Value) (r' : List Value) : Prop := ∀ a l c cs k ro, x = .slice (some a) l c → s.heap.get a.block = some (.cells cs (some k) ro) → ∀ v ∈ r', isCell v = true

/-- The first elements of a slice, or bytes of a string. -/
theorem firstN_run' (hs : SR ι s w) {size n m : Nat} {x x' : Value} {r : List Value} (h : firstN s size n x = some r) (hx : VR ι x x') (hl : lenOf x = some m) (hnm : n ≤ m) :
    ∃ r' : List Value, LR ι r r' ∧ CellsIn s x r' ∧ ∀ P, (Builtin.firstCells size n x').run P w = .ok ⟨r'⟩ w := by
  cases x <;> simp only [firstN] at h <;> first | (cases h; done) | skip
  case string b =>
    cases h
    rw [hx.plain_eq.2.2 _ rfl]
    refine ⟨(b.data.toList.take n).map fun c => Value.int .u8 c.toNat, .self ?_, (fun a l c cs k ro h => by cases h), fun P => ?_⟩
    · intro v hv
      obtain ⟨c, _, rfl⟩ := List.mem_map.1 hv
      exact .int _ _
    · simp only [Builtin.firstCells, Sem.run_pure]
      congr 1
      apply array_eq_of_toList
      have : (b.extract 0 n).data.toList = b.data.toList.take n := by rw [extract_list b 0 n (by omega)]; simp
      simp only [Array.toList_map]
      rw [this]
  case slice a l c =>
    cases a with
    | none =>
      simp only [firstN] at h; cases h
      cases hx
      exact ⟨[], .nil, (fun a l c cs k ro h => by cases h), fun P => by simp [Builtin.firstCells]⟩
    | some a =>
      simp only [firstN] at h
      cases hg : s.heap.get a.block with
      | none => rw [hg] at h; cases h
      | some ob =>
        rw [hg] at h
        cases ob <;> (try simp only at h) <;> first | (cases h; done) | skip
        rename_i cs esz ro
        cases hsp : a.spot.isSome with
        | true => rw [hsp] at h; cases h
        | false =>
          simp only [hsp, cond_false] at h
          rcases hx.slice_some with ⟨nm, off, ni, cap', rfl, hni, rfl, _, _⟩ | ⟨a', rfl, rfl, rfl⟩
          · obtain ⟨r', h1, _, h2, h3⟩ := hs.row' hg hni h
            exact ⟨r', h1, (fun a l c cs k ro he hgg => by cases he; rw [hg] at hgg; cases hgg; exact h3 k rfl), fun P => by simp [Builtin.firstCells, h2 P]⟩
          · simp only [lenOf] at hl; cases hl
            obtain rfl : n = 0 := by omega
            simp only [Nat.zero_mul, takeN] at h
            cases h
            exact ⟨[], .nil, (fun _ _ _ _ _ _ _ _ v hv => by cases hv), fun P => by simp [Builtin.firstCells, loadCells, loadCellsFrom]⟩

theorem firstN_run (hs : SR ι s w) {size n m : Nat} {x x' : Value} {r : List Value} (h : firstN s size n x = some r) (hx : VR ι x x') (hl : lenOf x = some m) (hnm : n ≤ m) :
    ∃ r' : List Value, LR ι r r' ∧ ∀ P, (Builtin.firstCells size n x').run P w = .ok ⟨r'⟩ w :=
  let ⟨r', h1, _, h2⟩ := firstN_run' hs h hx hl hnm
  ⟨r', h1, h2⟩

theorem builtin_does {o : Oper} {c : Call} {b : Builtin} {v : Value} (ho : o.op = .call c) (hcc : c.callee = .builtin b) {f : Array TypeId → TypeId → Array Value → Sem Value}
    (hb : ∀ t consts args, builtin b c.argTypes t consts args = (do pure (.value (← f c.argTypes t args)))) {v' : Value} {w' : World} {ι' : Inj}
    (hr : ∀ t, (f c.argTypes t (c.args.map ρ')).run P w = .ok v' w') (hv : VR ι' v v') (hp : Post ι s w ι' s' w') : Does P ι s ρ' o v s' w := by
  refine ⟨.value v', v', w', ι', ?_, .inl rfl, hv, hp⟩
  unfold execOp
  simp only [ho, resolve, hcc]
  simp only [Sem.run_bind, Sem.run_pure, Result.andThen_ok, invoke]
  rw [hb]
  simp only [Sem.run_bind, hr, Result.andThen_ok, Sem.run_pure]

/-- An append that grows: the new row. -/
theorem OR_grown {old new old' new' rest' : List Value} {c : Array Value} {e : TypeId} {size need newCap : Nat} (hold : LR ι old old') (hnew : LR ι new new') (hs0 : 0 < size)
    (hlen : (old ++ new).length = need * size) (hc : c.toList = old' ++ new' ++ rest') (hrest : rest'.length = (newCap - need) * size) (hcap : need ≤ newCap) (hcell : ∀ v ∈ c.toList, isCell v = true) {ι' : Inj} (hx : Ext ι ι') :
    OR ι' (wpush w (.cells c e (0, 0))) ⟨w.heap.size, 0, need * size, newCap * size, some size⟩ (.cells (old ++ new) (some size) false) := by
  have hl1 := hold.length
  have hl2 := hnew.length
  have hon : (old' ++ new').length = need * size := by rw [List.length_append, ← hl1, ← hl2, ← List.length_append]; exact hlen
  have hsize : c.size = newCap * size := by
    rw [← Array.length_toList, hc, List.length_append, hon, hrest, ← Nat.add_mul, show need + (newCap - need) = newCap from by omega]
  have hpc : need * size ≤ newCap * size := Nat.mul_le_mul_right _ hcap
  refine ⟨c, e, (0, 0), by rw [wpush_get]; simp, hlen, rfl, ?_, ?_, by intro _ off _; simp, fun _ => rfl, ?_⟩
  · simp only [Nat.zero_add]; rw [hsize]; exact hpc
  · have : piece c 0 (need * size) = old' ++ new' := by
      unfold piece
      rw [hc, List.drop_zero, List.take_append_of_le_length (by rw [hon]; exact Nat.le_refl _)]
      exact List.take_of_length_le (by rw [hon]; exact Nat.le_refl _)
    show LR ι' _ (piece _ 0 (need * size))
    rw [this]
    exact (hold.append hnew).mono hx
  · exact ⟨hsize, fun k hk => by cases hk; exact ⟨hs0, hcell⟩⟩

/-- What an append asks of its types. -/
structure AppTy (P : Program) (ats : Array TypeId) (st xt e : TypeId) (ti tx te : TI) : Prop where
  h0 : ats[0]? = some st
  h1 : ats[1]? = some xt
  hs : P.underlying st = some ti.und
  hx : P.underlying xt = some tx.und
  hd : ti.und = .slice e
  hn : ∀ k, tx.und ≠ .int k
  he : TyOk P e te

omit Sg in
theorem append_in {ats : Array TypeId} {st xt e : TypeId} {ti tx te : TI} (hT : AppTy P ats st xt e ti tx te) {t : TypeId} {base' : Option Addr} {sLen sCap' n : Nat} {y1 : Value} {new' : List Value} {w' : World}
    (hle : sLen + n ≤ sCap') (hlen : (Builtin.lenOf y1).run P w = .ok n w) (hfirst : (Builtin.firstCells te.size n y1).run P w = .ok ⟨new'⟩ w)
    (hst : (base' = none ∧ w' = w) ∨ ∃ a, base' = some a ∧ (storeCells (a.add (sLen * te.size)) new').run P w = .ok () w') :
    (Builtin.append_ ats t ⟨[.slice base' sLen sCap', y1]⟩).run P w = .ok (.slice base' (sLen + n) sCap') w' := by
  have hs := hT.hs
  rw [hT.hd] at hs
  have hux := hT.hx
  have hnk := hT.hn
  generalize tx.und = xd at hux hnk
  unfold Builtin.append_
  simp only [hT.h0, hT.h1]
  have e0 : (⟨[Value.slice base' sLen sCap', y1]⟩ : Array Value)[0]? = some (.slice base' sLen sCap') := rfl
  have e1 : (⟨[Value.slice base' sLen sCap', y1]⟩ : Array Value)[1]? = some y1 := rfl
  simp only [e0, e1, Sem.run_bind, run_underlying hs, run_underlying hux, Result.andThen_ok, hT.he.run_size, Sem.run_pure]
  cases xd <;> first | (exact absurd rfl (hnk _)) | skip
  all_goals simp only [Bool.false_eq_true, if_false, Bool.not_false, if_true, Sem.run_bind, hlen, Result.andThen_ok]
  all_goals rw [if_pos hle]
  all_goals
    simp only [Sem.run_bind, hfirst, Result.andThen_ok]
    rcases hst with ⟨rfl, rfl⟩ | ⟨a, rfl, hst⟩
    · simp
    · simp only [Sem.run_bind, hst, Result.andThen_ok, Sem.run_pure]

omit Sg in
theorem append_out {ats : Array TypeId} {st xt e : TypeId} {ti tx te : TI} (hT : AppTy P ats st xt e ti tx te) {t : TypeId} {base' : Option Addr} {sLen sCap' n : Nat} {y1 : Value} {old' new' : List Value}
    (hle : sCap' < sLen + n) (hby : (sLen + n) * te.bytes ≤ most) (hmo : sLen + n ≤ most) (hsz : 0 < te.size) (hzl : te.zero.length = te.size) (hlen : (Builtin.lenOf y1).run P w = .ok n w)
    (hnew : (Builtin.firstCells te.size n y1).run P { w with drawn := w.drawn + 1 } = .ok ⟨new'⟩ { w with drawn := w.drawn + 1 })
    (hold : (Builtin.firstCells te.size sLen (.slice base' sLen sCap')).run P { w with drawn := w.drawn + 1 } = .ok ⟨old'⟩ { w with drawn := w.drawn + 1 }) :
    ∃ (newCap : Nat) (rest' : List Value) (c : Array Value), sLen + n ≤ newCap ∧ rest'.length = (newCap - (sLen + n)) * te.size ∧ (∀ v ∈ rest', v ∈ te.zero) ∧ c.toList = old' ++ new' ++ rest' ∧
      (Builtin.append_ ats t ⟨[.slice base' sLen sCap', y1]⟩).run P w = .ok (.slice (some ⟨w.heap.size, 0, none⟩) (sLen + n) newCap) (wpush { w with drawn := w.drawn + 1 } (.cells c e (0, 0))) := by
  have hs := hT.hs
  rw [hT.hd] at hs
  have hux := hT.hx
  have hnk := hT.hn
  generalize tx.und = xd at hux hnk
  obtain ⟨inf, hinf, _, hb⟩ := hT.he.run_info w
  obtain ⟨inf1, hinf1, _, hb1⟩ := hT.he.run_info { w with drawn := w.drawn + 1 }
  obtain ⟨z, hzr, hzc, _⟩ := hT.he.run_zero { w with drawn := w.drawn + 1 }
  have hmost : most = 1099511627776 := rfl
  have hmax : IntKind.i64.max = 9223372036854775807 := by decide
  have hns := nextslicecap_le hle
  have hbig : ¬ (Builtin.nextslicecap (sLen + n) sCap' * te.bytes > 2 ^ 48) := by
    have : Builtin.nextslicecap (sLen + n) sCap' * te.bytes ≤ 16 * (sLen + n) * te.bytes := Nat.mul_le_mul_right _ hns
    rw [Nat.mul_assoc] at this
    omega
  have hzs : z.cells.size = te.size := by rw [← Array.length_toList, hzc]; exact hzl
  have hq : ∀ (o : Nat) (el : TypeId), (Question.appendCap (sLen + n) o el).forced = false := fun _ _ => rfl
  have hcap : ∀ tp, sLen + n ≤ (Question.appendCap (sLen + n) sCap' e).cut tp := fun tp => by
    simp only [Question.cut]; omega
  refine ⟨(Question.appendCap (sLen + n) sCap' e).cut (w.tape w.drawn (Question.appendCap (sLen + n) sCap' e)),
    (Builtin.zeroCells z.cells ((Question.appendCap (sLen + n) sCap' e).cut (w.tape w.drawn (Question.appendCap (sLen + n) sCap' e)) - (sLen + n))).toList,
    ⟨old'⟩ ++ ⟨new'⟩ ++ Builtin.zeroCells z.cells ((Question.appendCap (sLen + n) sCap' e).cut (w.tape w.drawn (Question.appendCap (sLen + n) sCap' e)) - (sLen + n)), hcap _, ?_, ?_, ?_, ?_⟩
  · rw [Array.length_toList, zeroCells_size, hzs]
  · rw [zeroCells_eq _ _ (by omega), hzc]; exact fun v hv => repN_mem hv
  · simp
  · unfold Builtin.append_
    simp only [hT.h0, hT.h1]
    have e0 : (⟨[Value.slice base' sLen sCap', y1]⟩ : Array Value)[0]? = some (.slice base' sLen sCap') := rfl
    have e1 : (⟨[Value.slice base' sLen sCap', y1]⟩ : Array Value)[1]? = some y1 := rfl
    simp only [e0, e1, Sem.run_bind, run_underlying hs, run_underlying hux, Result.andThen_ok, hT.he.run_size, Sem.run_pure]
    cases xd <;> first | (exact absurd rfl (hnk _)) | skip
    all_goals
      simp only [Bool.false_eq_true, if_false, Bool.not_false, if_true, Sem.run_bind, hlen, Result.andThen_ok]
      rw [if_neg (by omega)]
      simp only [Sem.run_bind, hinf, hb, Result.andThen_ok, false_or]
      rw [if_neg (by rw [hmax]; rintro ⟨h1, _⟩; omega)]
      simp only [Sem.run_bind, Sem.run_pure, Result.andThen_ok, hinf, hb]
      rw [if_neg hbig]
      simp only [Sem.run_bind, Sem.run_pure, Result.andThen_ok, run_choose, hq, Bool.false_eq_true, if_false, hinf1, run_askRoom, hold, hnew, hzr, newRow, run_newObj]
      rfl

omit Sg in
/-- An append of so many zero values. -/
theorem append_zeros {ats : Array TypeId} {st xt e : TypeId} {ti te : TI} {xk j : IntKind} (h0 : ats[0]? = some st) (h1 : ats[1]? = some xt) (hs : P.underlying st = some ti.und) (hd : ti.und = .slice e) (hux : P.underlying xt = some (.int xk)) (hte : TyOk P e te)
    {t : TypeId} {base' : Option Addr} {sLen sCap' : Nat} {l : Int} {old' : List Value} (hl : 0 ≤ l)
    (hle : sCap' < sLen + l.toNat) (hby : (sLen + l.toNat) * te.bytes ≤ most) (hmo : sLen + l.toNat ≤ most) (hsz : 0 < te.size) (hzl : te.zero.length = te.size)
    (hold : (Builtin.firstCells te.size sLen (.slice base' sLen sCap')).run P { w with drawn := w.drawn + 1 } = .ok ⟨old'⟩ { w with drawn := w.drawn + 1 }) :
    ∃ (newCap : Nat) (rest' : List Value) (c : Array Value), sLen + l.toNat ≤ newCap ∧ rest'.length = (newCap - (sLen + l.toNat)) * te.size ∧ (∀ v ∈ rest', v ∈ te.zero) ∧ c.toList = old' ++ repN l.toNat te.zero ++ rest' ∧
      (Builtin.append_ ats t ⟨[.slice base' sLen sCap', .int j l]⟩).run P w = .ok (.slice (some ⟨w.heap.size, 0, none⟩) (sLen + l.toNat) newCap) (wpush { w with drawn := w.drawn + 1 } (.cells c e (0, 0))) := by
  rw [hd] at hs
  obtain ⟨inf, hinf, _, hb⟩ := hte.run_info w
  obtain ⟨inf1, hinf1, _, hb1⟩ := hte.run_info { w with drawn := w.drawn + 1 }
  obtain ⟨z, hzr, hzc, _⟩ := hte.run_zero { w with drawn := w.drawn + 1 }
  have hmost : most = 1099511627776 := rfl
  have hmax : IntKind.i64.max = 9223372036854775807 := by decide
  have hns := nextslicecap_le hle
  have hbig : ¬ (Builtin.nextslicecap (sLen + l.toNat) sCap' * te.bytes > 2 ^ 48) := by
    have : Builtin.nextslicecap (sLen + l.toNat) sCap' * te.bytes ≤ 16 * (sLen + l.toNat) * te.bytes := Nat.mul_le_mul_right _ hns
    rw [Nat.mul_assoc] at this
    omega
  have hzs : z.cells.size = te.size := by rw [← Array.length_toList, hzc]; exact hzl
  have hw : IntKind.i64.wrap l = l := by rw [IntKind.wrap_i64]; omega
  have hlb : ¬ (l * (te.bytes : Int) > 2 ^ 48) := by
    have h1 : l.toNat * te.bytes ≤ (sLen + l.toNat) * te.bytes := Nat.mul_le_mul_right _ (by omega)
    have h2 : ((l.toNat * te.bytes : Nat) : Int) = l * te.bytes := by rw [Int.natCast_mul, Int.toNat_of_nonneg hl]
    omega
  have hq : ∀ (o : Nat) (el : TypeId), (Question.appendCap (sLen + l.toNat) o el).forced = false := fun _ _ => rfl
  have hcap : ∀ tp, sLen + l.toNat ≤ (Question.appendCap (sLen + l.toNat) sCap' e).cut tp := fun tp => by
    simp only [Question.cut]; omega
  refine ⟨(Question.appendCap (sLen + l.toNat) sCap' e).cut (w.tape w.drawn (Question.appendCap (sLen + l.toNat) sCap' e)),
    (Builtin.zeroCells z.cells ((Question.appendCap (sLen + l.toNat) sCap' e).cut (w.tape w.drawn (Question.appendCap (sLen + l.toNat) sCap' e)) - (sLen + l.toNat))).toList,
    ⟨old'⟩ ++ ⟨repN l.toNat te.zero⟩ ++ Builtin.zeroCells z.cells ((Question.appendCap (sLen + l.toNat) sCap' e).cut (w.tape w.drawn (Question.appendCap (sLen + l.toNat) sCap' e)) - (sLen + l.toNat)), hcap _, ?_, ?_, ?_, ?_⟩
  · rw [Array.length_toList, zeroCells_size, hzs]
  · rw [zeroCells_eq _ _ (by omega), hzc]; exact fun v hv => repN_mem hv
  · simp
  · have hz0 : (if l.toNat * te.size = 0 then (pure #[] : Sem (Array Value)) else do pure (Builtin.zeroCells (← zeroValue e).cells l.toNat)).run P { w with drawn := w.drawn + 1 } = .ok ⟨repN l.toNat te.zero⟩ { w with drawn := w.drawn + 1 } := by
      by_cases h0 : l.toNat * te.size = 0
      · rw [if_pos h0]
        have : l.toNat = 0 := by rcases Nat.mul_eq_zero.1 h0 with h | h <;> omega
        rw [this]; rfl
      · rw [if_neg h0]
        simp only [Sem.run_bind, hzr, Result.andThen_ok, Sem.run_pure]
        rw [zeroCells_eq _ _ (by omega), hzc]
    unfold Builtin.append_
    simp only [h0, h1]
    have e0 : (⟨[Value.slice base' sLen sCap', .int j l]⟩ : Array Value)[0]? = some (.slice base' sLen sCap') := rfl
    have e1 : (⟨[Value.slice base' sLen sCap', .int j l]⟩ : Array Value)[1]? = some (.int j l) := rfl
    simp only [e0, e1, Sem.run_bind, run_underlying hs, run_underlying hux, Result.andThen_ok, hte.run_size, Sem.run_pure]
    have hai : (asInt (.int j l)).run P w = .ok l w := by simp [asInt, asIntOf]
    simp only [Bool.false_eq_true, if_false, Bool.not_true, if_true, Sem.run_bind, hai, Sem.run_pure, Result.andThen_ok, hw]
    rw [if_neg (by omega)]
    simp only [Sem.run_bind, Sem.run_pure, Result.andThen_ok, hinf, hb]
    rw [if_neg hlb]
    simp only [Sem.run_bind, Sem.run_pure, Result.andThen_ok]
    rw [if_neg (by omega)]
    simp only [Sem.run_bind, hinf, hb, Result.andThen_ok]
    rw [if_neg (by rw [hmax]; rintro ⟨h1, _⟩; omega)]
    simp only [Sem.run_bind, Sem.run_pure, Result.andThen_ok, hinf, hb]
    rw [if_neg hbig]
    simp only [Sem.run_bind, Sem.run_pure, Result.andThen_ok, run_choose, hq, Bool.false_eq_true, if_false, hinf1, run_askRoom, hold, hz0, hzr, newRow, run_newObj]
    rfl

end
end Go.Sh

namespace Go.Sh
open Go

variable [Sg : Sig]

section
variable {E : Env} {P : Program} {ι : Inj} {ρ : Operand → Option Value} {ρ' : Operand → Value} {s s' : St} {w : World}

omit Sg in
theorem drawn_calm (w : World) : Calm w { w with drawn := w.drawn + 1 } := ⟨rfl, rfl, fun _ => rfl⟩

theorem next_none (hs : SR ι s w) : ι s.next = none := by
  cases hg : ι s.next with
  | none => rfl
  | some mi => have := hs.fresh _ _ hg; omega

omit Sg in
theorem blt_lt {a b : Nat} (h : Nat.blt a b = true) : a < b := by
  have : Nat.ble (a + 1) b = true := h
  exact Nat.le_of_ble_eq_true this

/-- An append that makes a new row: from a state with perhaps fewer names. -/
theorem grown_post {s0 : St} (hs : SR ι s w) (hsub : ∀ n o, s0.heap.get n = some o → s.heap.get n = some o) (hnext : s0.next = s.next) {old new old' new' rest' : List Value} {c : Array Value} {e : TypeId} {size need newCap : Nat}
    (hold : LR ι old old') (hnew : LR ι new new') (hs0 : 0 < size) (hlen : (old ++ new).length = need * size) (hc : c.toList = old' ++ new' ++ rest') (hrest : rest'.length = (newCap - need) * size) (hcap : need ≤ newCap) (hcell : ∀ v ∈ c.toList, isCell v = true) :
    ∃ ι', VR ι' (.slice (some ⟨s.next, 0, none⟩) need need) (.slice (some ⟨w.heap.size, 0, none⟩) need newCap) ∧
      Post ι s w ι' { heap := s0.heap.set s.next (.cells (old ++ new) (some size) false), next := s.next + 1 } (wpush { w with drawn := w.drawn + 1 } (.cells c e (0, 0))) := by
  have hι := next_none hs
  have hs1 : SR ι s0 { w with drawn := w.drawn + 1 } := (hs.sub hsub (by omega)).of_heap rfl
  have hp := Post.push (o := .cells (old ++ new) (some size) false) (ni := ⟨w.heap.size, 0, need * size, newCap * size, some size⟩) (ob := .cells c e (0, 0)) hs1 rfl
    (OR_grown (w := { w with drawn := w.drawn + 1 }) hold hnew hs0 hlen hc hrest hcap hcell (by rw [hnext]; exact Ext.upd _ hι)) (fun off => by simp [fzObj])
  rw [hnext] at hp
  refine ⟨upd ι s.next ⟨w.heap.size, 0, need * size, newCap * size, some size⟩, ?_, ?_⟩
  rotate_left
  · refine ⟨hp.ext, hp.rel, hp.size, ?_, ?_, ⟨rfl, rfl, hp.calm.froz⟩, by show s.next ≤ s.next + 1; omega, ?_, ?_, ?_⟩
    · intro b hb hf
      exact hp.frame b hb fun n o ni hn ho hni => hf n o ni (hsub n o hn) ho hni
    · intro n o ni hn ho hni
      rcases hp.wr n o ni hn ho hni with hge | ⟨m, p, mi, hm, hpp, hmi, heq⟩
      · exact .inl hge
      · exact .inr ⟨m, p, mi, hsub m p hm, hpp, hmi, heq⟩
    · intro n o hn
      rcases hp.live n o hn with ⟨p, hpn⟩ | hge
      · exact .inl ⟨p, hsub n p hpn⟩
      · exact .inr (by omega)
    · intro n ni hn
      rcases hp.newn n ni hn with h1 | hge
      · exact .inl h1
      · exact .inr (by omega)
    · intro n o ni hn hni
      rcases hp.blk n o ni hn hni with hge | ⟨m, p, mi, hm, hmi, heq⟩
      · exact .inl hge
      · exact .inr ⟨m, p, mi, hsub m p hm, hmi, heq⟩
  · have := VR.slice (ι := upd ι s.next ⟨w.heap.size, 0, need * size, newCap * size, some size⟩) s.next 0 need need newCap _ (upd_same ..)
      (.inr ⟨size, hs0, rfl, by simp, by simp⟩) hcap
    simpa using this

/-- An append that goes on in the old row, seen as a new one. -/
theorem inplace_post (hs : SR ι s w) {n off : Nat} {cs : List Value} {size need len nn cap' : Nat} {ni : NI} (hn : s.heap.get n = some (.cells cs (some size) false)) (hni : ι n = some ni)
    {old new new' : List Value} (hold : takeN (len * size) (cs.drop off) = some old) (hnew : LR ι new new') (hcell : allV isCell new = true)
    (hneed : need = len + nn) (hlen : old.length + new.length = need * size) (hle : need ≤ cap') (hsc : ni.d + off + cap' * size = ni.sc) :
    ∃ w', (∀ P, (storeCells ⟨ni.blk, ni.d + off + len * size, none⟩ new').run P w = .ok () w') ∧
      ∃ ι', VR ι' (.slice (some ⟨s.next, 0, none⟩) need need) (.slice (some ⟨ni.blk, ni.d + off, none⟩) need cap') ∧
        Post ι s w ι' { heap := (s.heap.del n).set s.next (.cells (old ++ new) (some size) false), next := s.next + 1 } w' := by
  obtain ⟨c, e, fr, h1, h2, h3, h4, h5, h6, h7, h8⟩ := hs.cells hn hni
  obtain ⟨hcs, h8⟩ := h8
  obtain ⟨hsz0, hcc⟩ := h8 size rfl
  have hι := next_none hs
  have hnn : n < s.next := hs.fresh n ni hni
  obtain ⟨ho1, ho2⟩ := takeN_eq hold
  have hol : old.length = len * size := by rw [ho1]; simp; simp at ho2; omega
  have hnl := hnew.length
  have hneeds : need * size ≤ cap' * size := Nat.mul_le_mul_right _ hle
  have hblk : ni.blk < w.heap.size := (Array.getElem?_eq_some_iff.1 h1).1
  have hcell' : ∀ v ∈ new', isCell v = true := by
    have key : ∀ {a b : List Value}, LR ι a b → allV isCell a = true → ∀ v ∈ b, isCell v = true := by
      intro a b hab
      induction a generalizing b with
      | nil => intro _ v hv; cases hab; cases hv
      | cons x a ih =>
        intro ha v hv
        cases hab with
        | cons _ y _ ys hy hys =>
          simp only [allV, Bool.and_eq_true] at ha
          rcases List.mem_cons.1 hv with rfl | hv
          · have := ha.1
            cases hy <;> first | rfl | (exact isCell_word (by assumption)) | (exact isCell_word (Sg.word _)) | (exact absurd this (by simp [isCell]))
          · exact ih hys ha.2 v hv
    exact key hnew hcell
  have hfit : ni.d + off + len * size + new'.length ≤ c.size := by rw [hcs, ← hsc]; omega
  refine ⟨wput w ni.blk (.cells (setArr c (ni.d + off + len * size) new') e fr), ?_, upd ι s.next ⟨ni.blk, ni.d + off, need * size, ni.sc, some size⟩, ?_, ?_⟩
  · intro P
    have := run_storeRow (P := P) ni.blk (ni.d + off + len * size) e fr new' 0 c w h1 (h6 rfl) (by omega) hcell'
    simpa using this
  · have := VR.slice (ι := upd ι s.next ⟨ni.blk, ni.d + off, need * size, ni.sc, some size⟩) s.next 0 need need cap' _ (upd_same ..)
      (.inr ⟨size, hsz0, rfl, by simp, by simpa using hsc⟩) hle
    simpa using this
  · have hor : OR (upd ι s.next ⟨ni.blk, ni.d + off, need * size, ni.sc, some size⟩) (wput w ni.blk (.cells (setArr c (ni.d + off + len * size) new') e fr)) ⟨ni.blk, ni.d + off, need * size, ni.sc, some size⟩ (.cells (old ++ new) (some size) false) := by
      refine ⟨setArr c (ni.d + off + len * size) new', e, fr, by rw [wput_get _ _ _ _ hblk]; simp, by simp; omega, rfl, ?_, ?_, ?_, h7, ?_⟩
      · rw [setArr_size hfit]; show ni.d + off + need * size ≤ c.size; rw [hcs, ← hsc]; omega
      · have hps := piece_set (c := c) (d := ni.d + off) (sa := need * size) (off := len * size) (vs := new') (by omega) (by rw [hcs, ← hsc]; omega)
        show LR _ _ (piece (setArr c (ni.d + off + len * size) new') (ni.d + off) (need * size))
        rw [hps]
        have hdrop : (piece c (ni.d + off) (need * size)).drop (len * size + new'.length) = [] := by
          apply List.drop_of_length_le
          unfold piece; rw [List.length_take]; omega
        rw [hdrop, List.append_nil]
        have holdLR : LR ι old ((piece c (ni.d + off) (need * size)).take (len * size)) := by
          have e1 : (piece c (ni.d + off) (need * size)).take (len * size) = ((piece c ni.d ni.sa).drop off).take (len * size) := by
            have hcl : c.toList.length = c.size := by simp
            apply List.ext_getElem?
            intro i
            by_cases hi : i < len * size
            · rw [List.getElem?_take_of_lt hi, List.getElem?_take_of_lt hi]
              unfold piece
              have hsa : off + len * size ≤ ni.sa := by
                have := h5.length
                simp at ho2; omega
              rw [List.getElem?_take_of_lt (by omega), List.getElem?_drop, List.getElem?_drop, List.getElem?_take_of_lt (by omega), List.getElem?_drop]
              congr 1; omega
            · rw [List.getElem?_eq_none (by rw [List.length_take]; omega), List.getElem?_eq_none (by rw [List.length_take]; omega)]
          rw [e1, ho1]
          exact (h5.drop off).take _
        exact (holdLR.append hnew).mono (Ext.upd _ hι)
      · rw [setArr_size hfit]; exact h6
      · refine ⟨by rw [setArr_size hfit]; exact hcs, fun k hk => ?_⟩
        cases hk
        refine ⟨hsz0, ?_⟩
        intro v hv
        simp only [setArr, List.mem_append] at hv
        rcases hv with (hv | hv) | hv
        · exact hcc v (List.mem_of_mem_take hv)
        · exact hcell' v hv
        · exact hcc v (List.mem_of_mem_drop hv)
    have hget : ∀ m, ((s.heap.del n).set s.next (AObj.cells (old ++ new) (some size) false)).get m = if m = s.next then some (.cells (old ++ new) (some size) false) else if m = n then none else s.heap.get m := by
      intro m; rw [Tr.get_set, Tr.get_del]
    refine ⟨Ext.upd _ hι, ⟨?_, ?_, ?_⟩, by rw [wput_size]; exact Nat.le_refl _, ?_, ?_, ⟨rfl, rfl, wput_frozen h1 fun _ => rfl⟩, by show s.next ≤ s.next + 1; omega, ?_, ?_, ?_⟩
    · intro m p hm
      simp only [hget] at hm
      by_cases em : m = s.next
      · subst em; rw [if_pos rfl] at hm; cases hm
        exact ⟨_, upd_same .., hor⟩
      · rw [if_neg em] at hm
        by_cases en : m = n
        · rw [if_pos en] at hm; cases hm
        · rw [if_neg en] at hm
          obtain ⟨mi, g1, g2⟩ := hs.obj m p hm
          refine ⟨mi, by rw [upd_ne _ _ em]; exact g1, g2.mono (Ext.upd _ hι) ?_⟩
          rw [wput_get _ _ _ _ hblk, if_neg]
          intro e'
          exact en (hs.inj m n p _ mi ni hm hn (.inr rfl) g1 hni e')
    · intro a b p q ai bi ha hb hwr hai hbi hab
      simp only [hget] at ha hb
      have key : ∀ m p mi, m ≠ s.next → (if m = n then none else s.heap.get m) = some p → upd ι s.next ⟨ni.blk, ni.d + off, need * size, ni.sc, some size⟩ m = some mi → mi.blk ≠ ni.blk ∧ s.heap.get m = some p ∧ ι m = some mi := by
        intro m p mi em hm hmi
        by_cases en : m = n
        · rw [if_pos en] at hm; cases hm
        · rw [if_neg en] at hm
          rw [upd_ne _ _ em] at hmi
          exact ⟨fun e' => en (hs.inj m n p _ mi ni hm hn (.inr rfl) hmi hni e'), hm, hmi⟩
      by_cases ea : a = s.next
      · by_cases eb : b = s.next
        · rw [ea, eb]
        · rw [if_neg eb] at hb
          subst ea
          rw [upd_same] at hai; cases hai
          exact absurd hab.symm (key b q bi eb hb hbi).1
      · rw [if_neg ea] at ha
        by_cases eb : b = s.next
        · subst eb
          rw [upd_same] at hbi; cases hbi
          exact absurd hab (key a p ai ea ha hai).1
        · rw [if_neg eb] at hb
          obtain ⟨_, g1, g2⟩ := key a p ai ea ha hai
          obtain ⟨_, g3, g4⟩ := key b q bi eb hb hbi
          exact hs.inj a b p q ai bi g1 g3 hwr g2 g4 hab
    · intro m mi hm
      by_cases em : m = s.next
      · subst em; show s.next < s.next + 1; omega
      · rw [upd_ne _ _ em] at hm
        have := hs.fresh m mi hm
        show m < s.next + 1; omega
    · intro b hb hf
      rw [wput_get _ _ _ _ hblk, if_neg]
      intro e'
      exact hf n _ ni hn rfl hni e'.symm
    · intro m p mi hm hp hmi
      simp only [hget] at hm
      by_cases em : m = s.next
      · subst em
        rw [upd_same] at hmi; cases hmi
        exact .inr ⟨n, _, ni, hn, rfl, hni, rfl⟩
      · rw [if_neg em] at hm
        by_cases en : m = n
        · rw [if_pos en] at hm; cases hm
        · rw [if_neg en] at hm
          rw [upd_ne _ _ em] at hmi
          exact .inr ⟨m, p, mi, hm, hp, hmi, rfl⟩
    · intro m p hm
      simp only [hget] at hm
      by_cases em : m = s.next
      · exact .inr (by omega)
      · rw [if_neg em] at hm
        by_cases en : m = n
        · rw [if_pos en] at hm; cases hm
        · rw [if_neg en] at hm; exact .inl ⟨p, hm⟩
    · intro m mi hm
      by_cases em : m = s.next
      · exact .inr (by omega)
      · rw [upd_ne _ _ em] at hm; exact .inl hm
    · intro m p mi hm hmi
      simp only [hget] at hm
      by_cases em : m = s.next
      · subst em
        rw [upd_same] at hmi; cases hmi
        exact .inr ⟨n, _, ni, hn, hni, rfl⟩
      · rw [if_neg em] at hm
        by_cases en : m = n
        · rw [if_pos en] at hm; cases hm
        · rw [if_neg en] at hm
          rw [upd_ne _ _ em] at hmi
          exact .inr ⟨m, p, mi, hm, hmi, rfl⟩

end
end Go.Sh
