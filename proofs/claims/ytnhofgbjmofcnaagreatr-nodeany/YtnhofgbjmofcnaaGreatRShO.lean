/-
  A shadow interpreter for the model's operations: every operation that writes is met. (No program in it.)
-/
import Derived.Test.YtnhofgbjmofcnaaGreatRShN
namespace Go.Sh
open Go

variable [Sg : Sig]

section
variable {E : Env} {P : Program} {ι : Inj} {ρ : Operand → Option Value} {ρ' : Operand → Value} {s s' : St} {w : World}

omit Sg in
theorem drawn_calm (w : World) : Calm w { w with drawn := w.drawn + 1 } := ⟨rfl, rfl, rfl, fun _ => rfl⟩

theorem next_none (hs : SR ι s w) : ι s.next = none := by
  cases hg : ι s.next with
  | none => rfl
  | some mi => have := hs.fresh _ _ hg; omega

omit Sg in
theorem blt_lt {a b : Nat} (h : Nat.blt a b = true) : a < b := by
  have : Nat.ble (a + 1) b = true := h
  exact Nat.le_of_ble_eq_true this

/-- An append that makes a new row: from a state with perhaps fewer names. -/
theorem grown_post {s0 : St} (hs : SR ι s w) (hsub : ∀ n o, s0.heap.get n = some o → s.heap.get n = some o) (hnext : s0.next = s.next) {old new old' new' rest' : List Value} {c : Array Value} {e : TypeId} {size need newCap : Nat}
    (hold : LR ι old old') (hnew : LR ι new new') (hs0 : 0 < size) (hlen : (old ++ new).length = need * size) (hc : c.toList = old' ++ new' ++ rest') (hrest : rest'.length = (newCap - need) * size) (hcap : need ≤ newCap) :
    ∃ ι', VR ι' (.slice (some ⟨s.next, 0, none⟩) need need) (.slice (some ⟨w.heap.size, 0, none⟩) need newCap) ∧
      Post ι s w ι' { heap := s0.heap.set s.next (.cells (old ++ new) (some size) false), next := s.next + 1 } (wpush { w with drawn := w.drawn + 1 } (.cells c e (0, 0))) := by
  have hι := next_none hs
  have hs1 : SR ι s0 { w with drawn := w.drawn + 1 } := (hs.sub hsub (by omega)).of_heap rfl
  have hp := Post.push (o := .cells (old ++ new) (some size) false) (ni := ⟨w.heap.size, 0, need * size, newCap * size, some size⟩) (ob := .cells c e (0, 0)) hs1 rfl
    (OR_grown (w := { w with drawn := w.drawn + 1 }) hold hnew hs0 hlen hc hrest hcap (by rw [hnext]; exact Ext.upd _ hι)) (fun off => by simp [fzObj])
  rw [hnext] at hp
  refine ⟨upd ι s.next ⟨w.heap.size, 0, need * size, newCap * size, some size⟩, ?_, ?_⟩
  rotate_left
  · refine ⟨hp.ext, hp.rel, hp.size, ?_, ?_, ⟨rfl, rfl, rfl, hp.calm.froz⟩, by show s.next ≤ s.next + 1; omega, ?_, ?_, ?_⟩
    · intro b hb hf
      exact hp.frame b hb fun n o ni hn ho hni => hf n o ni (hsub n o hn) ho hni
    · intro n o ni hn ho hni
      rcases hp.wr n o ni hn ho hni with hge | ⟨m, p, mi, hm, hpp, hmi, heq⟩
      · exact .inl hge
      · exact .inr ⟨m, p, mi, hsub m p hm, hpp, hmi, heq⟩
    · intro n o hn
      rcases hp.live n o hn with ⟨p, hpn⟩ | hge
      · exact .inl ⟨p, hsub n p hpn⟩
      · exact .inr (by omega)
    · intro n ni hn
      rcases hp.newn n ni hn with h1 | hge
      · exact .inl h1
      · exact .inr (by omega)
    · intro n o ni hn hni
      rcases hp.blk n o ni hn hni with hge | ⟨m, p, mi, hm, hmi, heq⟩
      · exact .inl hge
      · exact .inr ⟨m, p, mi, hsub m p hm, hmi, heq⟩
  · have := VR.slice (ι := upd ι s.next ⟨w.heap.size, 0, need * size, newCap * size, some size⟩) s.next 0 need need newCap _ (upd_same ..)
      (.inr ⟨size, hs0, rfl, by simp, by simp⟩) hcap
    simpa using this

/-- An append that goes on in the old row, seen as a new one. -/
theorem inplace_post (hs : SR ι s w) {n off : Nat} {cs : List Value} {size need len nn cap' : Nat} {ni : NI} (hn : s.heap.get n = some (.cells cs (some size) false)) (hni : ι n = some ni)
    {old new new' : List Value} (hold : takeN (len * size) (cs.drop off) = some old) (hnew : LR ι new new') (hcell : allV isCell new = true)
    (hneed : need = len + nn) (hlen : old.length + new.length = need * size) (hle : need ≤ cap') (hsc : ni.d + off + cap' * size = ni.sc) :
    ∃ w', (∀ P, (storeCells ⟨ni.blk, ni.d + off + len * size, none⟩ new').run P w = .ok () w') ∧
      ∃ ι', VR ι' (.slice (some ⟨s.next, 0, none⟩) need need) (.slice (some ⟨ni.blk, ni.d + off, none⟩) need cap') ∧
        Post ι s w ι' { heap := (s.heap.del n).set s.next (.cells (old ++ new) (some size) false), next := s.next + 1 } w' := by
  obtain ⟨c, e, fr, h1, h2, h3, h4, h5, h6, h7, h8⟩ := hs.cells hn hni
  obtain ⟨hsz0, hcs⟩ := h8 size rfl
  have hι := next_none hs
  have hnn : n < s.next := hs.fresh n ni hni
  obtain ⟨ho1, ho2⟩ := takeN_eq hold
  have hol : old.length = len * size := by rw [ho1]; simp; simp at ho2; omega
  have hnl := hnew.length
  have hneeds : need * size ≤ cap' * size := Nat.mul_le_mul_right _ hle
  have hblk : ni.blk < w.heap.size := (Array.getElem?_eq_some_iff.1 h1).1
  have hcell' : ∀ v ∈ new', isCell v = true := by
    have key : ∀ {a b : List Value}, LR ι a b → allV isCell a = true → ∀ v ∈ b, isCell v = true := by
      intro a b hab
      induction a generalizing b with
      | nil => intro _ v hv; cases hab; cases hv
      | cons x a ih =>
        intro ha v hv
        cases hab with
        | cons _ y _ ys hy hys =>
          simp only [allV, Bool.and_eq_true] at ha
          rcases List.mem_cons.1 hv with rfl | hv
          · have := ha.1
            cases hy <;> first | rfl | (exact isCell_word (by assumption)) | (exact isCell_word (Sg.word _)) | (exact absurd this (by simp [isCell]))
          · exact ih hys ha.2 v hv
    exact key hnew hcell
  have hfit : ni.d + off + len * size + new'.length ≤ c.size := by rw [hcs, ← hsc]; omega
  refine ⟨wput w ni.blk (.cells (setArr c (ni.d + off + len * size) new') e fr), ?_, upd ι s.next ⟨ni.blk, ni.d + off, need * size, ni.sc, some size⟩, ?_, ?_⟩
  · intro P
    have := run_storeRow (P := P) ni.blk (ni.d + off + len * size) e fr new' 0 c w h1 (h6 rfl) (by omega) hcell'
    simpa using this
  · have := VR.slice (ι := upd ι s.next ⟨ni.blk, ni.d + off, need * size, ni.sc, some size⟩) s.next 0 need need cap' _ (upd_same ..)
      (.inr ⟨size, hsz0, rfl, by simp, by simpa using hsc⟩) hle
    simpa using this
  · have hor : OR (upd ι s.next ⟨ni.blk, ni.d + off, need * size, ni.sc, some size⟩) (wput w ni.blk (.cells (setArr c (ni.d + off + len * size) new') e fr)) ⟨ni.blk, ni.d + off, need * size, ni.sc, some size⟩ (.cells (old ++ new) (some size) false) := by
      refine ⟨setArr c (ni.d + off + len * size) new', e, fr, by rw [wput_get _ _ _ _ hblk]; simp, by simp; omega, rfl, ?_, ?_, ?_, fun h => (by cases h), ?_⟩
      · rw [setArr_size hfit]; show ni.d + off + need * size ≤ c.size; rw [hcs, ← hsc]; omega
      · have hps := piece_set (c := c) (d := ni.d + off) (sa := need * size) (off := len * size) (vs := new') (by omega) (by rw [hcs, ← hsc]; omega)
        show LR _ _ (piece (setArr c (ni.d + off + len * size) new') (ni.d + off) (need * size))
        rw [hps]
        have hdrop : (piece c (ni.d + off) (need * size)).drop (len * size + new'.length) = [] := by
          apply List.drop_of_length_le
          unfold piece; rw [List.length_take]; omega
        rw [hdrop, List.append_nil]
        have holdLR : LR ι old ((piece c (ni.d + off) (need * size)).take (len * size)) := by
          have e1 : (piece c (ni.d + off) (need * size)).take (len * size) = ((piece c ni.d ni.sa).drop off).take (len * size) := by
            have hcl : c.toList.length = c.size := by simp
            apply List.ext_getElem?
            intro i
            by_cases hi : i < len * size
            · rw [List.getElem?_take_of_lt hi, List.getElem?_take_of_lt hi]
              unfold piece
              have hsa : off + len * size ≤ ni.sa := by
                have := h5.length
                simp at ho2; omega
              rw [List.getElem?_take_of_lt (by omega), List.getElem?_drop, List.getElem?_drop, List.getElem?_take_of_lt (by omega), List.getElem?_drop]
              congr 1; omega
            · rw [List.getElem?_eq_none (by rw [List.length_take]; omega), List.getElem?_eq_none (by rw [List.length_take]; omega)]
          rw [e1, ho1]
          exact (h5.drop off).take _
        exact (holdLR.append hnew).mono (Ext.upd _ hι)
      · rw [setArr_size hfit]; exact h6
      · intro k hk; cases hk; exact ⟨hsz0, by rw [setArr_size hfit]; exact hcs⟩
    have hget : ∀ m, ((s.heap.del n).set s.next (AObj.cells (old ++ new) (some size) false)).get m = if m = s.next then some (.cells (old ++ new) (some size) false) else if m = n then none else s.heap.get m := by
      intro m; rw [Tr.get_set, Tr.get_del]
    refine ⟨Ext.upd _ hι, ⟨?_, ?_, ?_⟩, by rw [wput_size]; exact Nat.le_refl _, ?_, ?_, ⟨rfl, rfl, rfl, wput_frozen h1 fun _ => rfl⟩, by show s.next ≤ s.next + 1; omega, ?_, ?_, ?_⟩
    · intro m p hm
      simp only [hget] at hm
      by_cases em : m = s.next
      · subst em; rw [if_pos rfl] at hm; cases hm
        exact ⟨_, upd_same .., hor⟩
      · rw [if_neg em] at hm
        by_cases en : m = n
        · rw [if_pos en] at hm; cases hm
        · rw [if_neg en] at hm
          obtain ⟨mi, g1, g2⟩ := hs.obj m p hm
          refine ⟨mi, by rw [upd_ne _ _ em]; exact g1, g2.mono (Ext.upd _ hι) ?_⟩
          rw [wput_get _ _ _ _ hblk, if_neg]
          intro e'
          exact en (hs.inj m n p _ mi ni hm hn g1 hni e')
    · intro a b p q ai bi ha hb hai hbi hab
      simp only [hget] at ha hb
      have key : ∀ m p mi, m ≠ s.next → (if m = n then none else s.heap.get m) = some p → upd ι s.next ⟨ni.blk, ni.d + off, need * size, ni.sc, some size⟩ m = some mi → mi.blk ≠ ni.blk ∧ s.heap.get m = some p ∧ ι m = some mi := by
        intro m p mi em hm hmi
        by_cases en : m = n
        · rw [if_pos en] at hm; cases hm
        · rw [if_neg en] at hm
          rw [upd_ne _ _ em] at hmi
          exact ⟨fun e' => en (hs.inj m n p _ mi ni hm hn hmi hni e'), hm, hmi⟩
      by_cases ea : a = s.next
      · by_cases eb : b = s.next
        · rw [ea, eb]
        · rw [if_neg eb] at hb
          subst ea
          rw [upd_same] at hai; cases hai
          exact absurd hab.symm (key b q bi eb hb hbi).1
      · rw [if_neg ea] at ha
        by_cases eb : b = s.next
        · subst eb
          rw [upd_same] at hbi; cases hbi
          exact absurd hab (key a p ai ea ha hai).1
        · rw [if_neg eb] at hb
          obtain ⟨_, g1, g2⟩ := key a p ai ea ha hai
          obtain ⟨_, g3, g4⟩ := key b q bi eb hb hbi
          exact hs.inj a b p q ai bi g1 g3 g2 g4 hab
    · intro m mi hm
      by_cases em : m = s.next
      · subst em; show s.next < s.next + 1; omega
      · rw [upd_ne _ _ em] at hm
        have := hs.fresh m mi hm
        show m < s.next + 1; omega
    · intro b hb hf
      rw [wput_get _ _ _ _ hblk, if_neg]
      intro e'
      exact hf n _ ni hn rfl hni e'.symm
    · intro m p mi hm hp hmi
      simp only [hget] at hm
      by_cases em : m = s.next
      · subst em
        rw [upd_same] at hmi; cases hmi
        exact .inr ⟨n, _, ni, hn, rfl, hni, rfl⟩
      · rw [if_neg em] at hm
        by_cases en : m = n
        · rw [if_pos en] at hm; cases hm
        · rw [if_neg en] at hm
          rw [upd_ne _ _ em] at hmi
          exact .inr ⟨m, p, mi, hm, hp, hmi, rfl⟩
    · intro m p hm
      simp only [hget] at hm
      by_cases em : m = s.next
      · exact .inr (by omega)
      · rw [if_neg em] at hm
        by_cases en : m = n
        · rw [if_pos en] at hm; cases hm
        · rw [if_neg en] at hm; exact .inl ⟨p, hm⟩
    · intro m mi hm
      by_cases em : m = s.next
      · exact .inr (by omega)
      · rw [upd_ne _ _ em] at hm; exact .inl hm
    · intro m p mi hm hmi
      simp only [hget] at hm
      by_cases em : m = s.next
      · subst em
        rw [upd_same] at hmi; cases hmi
        exact .inr ⟨n, _, ni, hn, hni, rfl⟩
      · rw [if_neg em] at hm
        by_cases en : m = n
        · rw [if_pos en] at hm; cases hm
        · rw [if_neg en] at hm
          rw [upd_ne _ _ em] at hmi
          exact .inr ⟨m, p, mi, hm, hmi, rfl⟩

end
end Go.Sh
