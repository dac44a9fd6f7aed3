/-
  A row seen in full: what slices.Insert does, out of a second shadow in which the capacity is known. (No program in it.)
-/
import Derived.Test.YtnhofgbjmofcnaaGreatRLg
import Derived.Test.YtnhofgbjmofcnaaGreatRLi

namespace Go.Sh
open Go

/-! ### lists that stand for just one list -/
section
variable [Sg : Sig]

structure Det (X Y : List Value) : Prop where
  rel : ∀ ι, LR ι X Y
  un : ∀ ι Y', LR ι X Y' → Y' = Y

structure DetV (x y : Value) : Prop where
  rel : ∀ ι, VR ι x y
  un : ∀ ι y', VR ι x y' → y' = y

theorem Det.length {X Y : List Value} (h : Det X Y) : X.length = Y.length := (h.rel fun _ => none).length

theorem LR.split {ι : Inj} {xs us ys : List Value} (h : LR ι (xs ++ us) ys) : LR ι xs (ys.take xs.length) ∧ LR ι us (ys.drop xs.length) := by
  have h1 := h.take xs.length
  have h2 := h.drop xs.length
  rw [List.take_left'  rfl] at h1
  rw [List.drop_left' rfl] at h2
  exact ⟨h1, h2⟩

theorem Det.append {X Y U V : List Value} (h : Det X Y) (h' : Det U V) : Det (X ++ U) (Y ++ V) := by
  refine ⟨fun ι => (h.rel ι).append (h'.rel ι), fun ι Y' hl => ?_⟩
  obtain ⟨h1, h2⟩ := hl.split
  rw [← List.take_append_drop X.length Y', h.un ι _ h1, h'.un ι _ h2]

theorem Det.take {X Y : List Value} (h : Det X Y) (n : Nat) : Det (X.take n) (Y.take n) := by
  refine ⟨fun ι => (h.rel ι).take n, fun ι Y' hl => ?_⟩
  have h1 := hl.append ((h.rel ι).drop n)
  rw [List.take_append_drop] at h1
  have h2 := (h.un ι _ h1).trans (List.take_append_drop n Y).symm
  exact List.append_cancel_right h2

theorem Det.drop {X Y : List Value} (h : Det X Y) (n : Nat) : Det (X.drop n) (Y.drop n) := by
  refine ⟨fun ι => (h.rel ι).drop n, fun ι Y' hl => ?_⟩
  have h1 := ((h.rel ι).take n).append hl
  rw [List.take_append_drop] at h1
  have h2 := (h.un ι _ h1).trans (List.take_append_drop n Y).symm
  exact List.append_cancel_left h2

theorem Det.cons {x y : Value} {X Y : List Value} (h : DetV x y) (h' : Det X Y) : Det (x :: X) (y :: Y) := by
  refine ⟨fun ι => .cons _ _ _ _ (h.rel ι) (h'.rel ι), fun ι Y' hl => ?_⟩
  cases hl with
  | cons _ y' _ ys hx hs => rw [h.un ι _ hx, h'.un ι _ hs]

end

/-- A cell's stand-in, by its place. -/
def symAt (m : Nat) (v : Value) : Value := match v with
  | .bool b => .bool b
  | _ => .complex .f64 m 0

def symL : Nat → List Value → List Value
  | _, [] => []
  | m, v :: vs => symAt m v :: symL (m + 1) vs

def wz : Option Value → Value
  | some v => cond (isWord v) v (.int .i64 0)
  | none => .int .i64 0

theorem wz_word (v : Option Value) : isWord (wz v) = true := by
  cases v with
  | none => rfl
  | some v =>
    show isWord (cond (isWord v) v (.int .i64 0)) = true
    cases h : isWord v with
    | true => exact h
    | false => rfl

/-- What stands for what, in a box (so that it is not taken for the one at hand). -/
structure SigB where
  sg : Sig

@[reducible] def rowSig (R : List Value) : Sig := ⟨fun m => wz R[m]?, fun m => wz_word _⟩

theorem symAt_det {R : List Value} {m : Nat} {v : Value} (hR : R[m]? = some v) (hc : isCell v = true) : @DetV (rowSig R) (symAt m v) v := by
  letI := rowSig R
  by_cases hb : ∃ b, v = .bool b
  · obtain ⟨b, rfl⟩ := hb
    exact ⟨fun ι => .bool b, fun ι y' h => by cases h; rfl⟩
  · have hw : isWord v = true := by
      cases v <;> first | rfl | (exact absurd ⟨_, rfl⟩ hb) | cases hc
    have hs : symAt m v = .complex .f64 m 0 := by
      cases v <;> first | rfl | (exact absurd ⟨_, rfl⟩ hb)
    have hv : (rowSig R).sym m = v := by
      show wz R[m]? = v
      rw [hR]; show cond (isWord v) v (.int .i64 0) = v; rw [hw]; rfl
    rw [hs]
    exact ⟨fun ι => by have := VR.sym (Sg := rowSig R) (ι := ι) .f64 m 0; rw [hv] at this; exact this, fun ι y' h => by cases h; exact hv⟩

theorem symL_det {R : List Value} : ∀ {l : List Value} {m : Nat}, (∀ i v, l[i]? = some v → R[m + i]? = some v) → (∀ v ∈ l, isCell v = true) → @Det (rowSig R) (symL m l) l
  | [], m, _, _ => by
    letI := rowSig R
    exact ⟨fun ι => .nil, fun ι Y' h => by cases h; rfl⟩
  | v :: l, m, hR, hc => by
    letI := rowSig R
    refine Det.cons (symAt_det (hR 0 v rfl) (hc v (by simp))) (symL_det (fun i u hu => ?_) fun u hu => hc u (by simp [hu]))
    have := hR (i + 1) u (by simpa using hu)
    rw [← this]; congr 1; omega

theorem symL_length : ∀ (l : List Value) (m : Nat), (symL m l).length = l.length
  | [], _ => rfl
  | _ :: l, m => by simp [symL, symL_length l (m + 1)]

theorem symL_cell : ∀ (l : List Value) (m : Nat), allV isCell (symL m l) = true
  | [], _ => rfl
  | v :: l, m => by
    simp only [symL, allV, symL_cell l (m + 1), Bool.and_true]
    cases v <;> rfl

/-! ### a new name for a row -/
section
variable [Sg : Sig] {P : Program} {ι : Inj} {s : St} {w w' : World}

theorem post_row (hs : SR ι s w) {h0 : Tr AObj} (hsub : ∀ m p, h0.get m = some p → s.heap.get m = some p) {niR : NI} {X : AObj}
    (hor : OR (upd ι s.next niR) w' niR X) (hold : ∀ m p mi, h0.get m = some p → ι m = some mi → OR (upd ι s.next niR) w' mi p ∧ mi.blk ≠ niR.blk)
    (hsize : w.heap.size ≤ w'.heap.size) (hframe : ∀ b, b < w.heap.size → (∀ n o ni, s.heap.get n = some o → o.wr = true → ι n = some ni → ni.blk ≠ b) → w'.heap[b]? = w.heap[b]?) (hcalm : Calm w w')
    (hwr : w.heap.size ≤ niR.blk ∨ ∃ m p mi, s.heap.get m = some p ∧ p.wr = true ∧ ι m = some mi ∧ mi.blk = niR.blk) :
    Post ι s w (upd ι s.next niR) { heap := h0.set s.next X, next := s.next + 1 } w' := by
  have hι := next_none hs
  refine ⟨Ext.upd _ hι, ⟨?_, ?_, ?_⟩, hsize, hframe, ?_, hcalm, by show s.next ≤ s.next + 1; omega, ?_, ?_, ?_⟩
  · intro m p hm
    simp only [Tr.get_set] at hm
    by_cases em : m = s.next
    · subst em; rw [if_pos rfl] at hm; cases hm
      exact ⟨_, upd_same .., hor⟩
    · rw [if_neg em] at hm
      obtain ⟨mi, g1, g2⟩ := hs.obj m p (hsub m p hm)
      exact ⟨mi, by rw [upd_ne _ _ em]; exact g1, (hold m p mi hm g1).1⟩
  · intro a b p q ai bi ha hb hwr hai hbi hab
    simp only [Tr.get_set] at ha hb
    by_cases ea : a = s.next
    · by_cases eb : b = s.next
      · rw [ea, eb]
      · rw [if_neg eb] at hb
        subst ea
        rw [upd_same] at hai; cases hai
        rw [upd_ne _ _ eb] at hbi
        exact absurd hab.symm (hold b q bi hb hbi).2
    · rw [if_neg ea] at ha
      rw [upd_ne _ _ ea] at hai
      by_cases eb : b = s.next
      · subst eb
        rw [upd_same] at hbi; cases hbi
        exact absurd hab (hold a p ai ha hai).2
      · rw [if_neg eb] at hb
        rw [upd_ne _ _ eb] at hbi
        exact hs.inj a b p q ai bi (hsub a p ha) (hsub b q hb) hwr hai hbi hab
  · intro m mi hm
    by_cases em : m = s.next
    · subst em; show s.next < s.next + 1; omega
    · rw [upd_ne _ _ em] at hm
      have := hs.fresh m mi hm
      show m < s.next + 1; omega
  · intro m p mi hm hp hmi
    simp only [Tr.get_set] at hm
    by_cases em : m = s.next
    · subst em
      rw [upd_same] at hmi; cases hmi
      exact hwr
    · rw [if_neg em] at hm
      rw [upd_ne _ _ em] at hmi
      exact .inr ⟨m, p, mi, hsub m p hm, hp, hmi, rfl⟩
  · intro m p hm
    simp only [Tr.get_set] at hm
    by_cases em : m = s.next
    · exact .inr (by omega)
    · rw [if_neg em] at hm
      exact .inl ⟨p, hsub m p hm⟩
  · intro m mi hm
    by_cases em : m = s.next
    · exact .inr (by omega)
    · rw [upd_ne _ _ em] at hm; exact .inl hm
  · intro m p mi hm hmi
    simp only [Tr.get_set] at hm
    by_cases em : m = s.next
    · subst em
      rw [upd_same] at hmi; cases hmi
      rcases hwr with h | ⟨m, p, mi, h1, _, h2, h3⟩
      · exact .inl h
      · exact .inr ⟨m, p, mi, h1, h2, h3⟩
    · rw [if_neg em] at hm
      rw [upd_ne _ _ em] at hmi
      exact .inr ⟨m, p, mi, hsub m p hm, hmi, rfl⟩

end

/-! ### the second shadow -/
def s01 (L0 L1 : List Value) : St := ⟨(Tr.leaf.set 0 (.cells L0 none false)).set 1 (.cells L1 none false), 2⟩
def s1 (L1 : List Value) : St := ⟨Tr.leaf.set 1 (.cells L1 none false), 2⟩

theorem s01_get (L0 L1 : List Value) (m : Nat) : (s01 L0 L1).heap.get m = if m = 1 then some (.cells L1 none false) else if m = 0 then some (.cells L0 none false) else none := by
  unfold s01
  rw [Tr.get_set, Tr.get_set, Tr.get_leaf]

theorem s1_get (L1 : List Value) (m : Nat) : (s1 L1).heap.get m = if m = 1 then some (.cells L1 none false) else none := by
  unfold s1
  rw [Tr.get_set, Tr.get_leaf]

structure InsDone (k : Nat) (L0 L1 : List Value) (o n i C : Nat) (v : Value) (s' : St) : Prop where
  one : s'.heap.get 1 = some (.cells L1 none false)
  out : (n + 1 ≤ C ∧ v = .slice (some ⟨0, o, none⟩) (n + 1) C ∧ s'.heap.get 0 = some (.cells (L0.take (o + i * k) ++ (L1 ++ ((L0.drop (o + i * k)).take ((n - i) * k) ++ L0.drop (o + (n + 1) * k)))) none false)) ∨
    ∃ r, r ≠ 1 ∧ v = .slice (some ⟨r, 0, none⟩) (n + 1) (n + 1) ∧ s'.heap.get r = some (.cells ((L0.drop o).take (i * k) ++ (L1 ++ (L0.drop (o + i * k)).take ((n - i) * k))) (some k) false)

structure InsNew (k : Nat) (L1 : List Value) (v : Value) (s' : St) : Prop where
  one : s'.heap.get 1 = some (.cells L1 none false)
  out : ∃ r, r ≠ 1 ∧ v = .slice (some ⟨r, 0, none⟩) 1 1 ∧ s'.heap.get r = some (.cells L1 (some k) false)

theorem piece_all (c : Array Value) : piece c 0 c.size = c.toList := by
  unfold piece
  rw [List.drop_zero]
  exact List.take_of_length_le (by simp)

theorem isWords_cell {l : List Value} (h : allV isWord l = true) : allV isCell l = true := allV_mem.2 fun v hv => isCell_word (allV_mem.1 h v hv)

/-- The row as it was, the new one put in. -/
theorem piece_ins {c : Array Value} {d n i k : Nat} (hi : i ≤ n) : (piece c d (n * k)).take (i * k) = (c.toList.drop d).take (i * k) ∧ (piece c d (n * k)).drop (i * k) = (c.toList.drop (d + i * k)).take ((n - i) * k) := by
  have h1 : i * k ≤ n * k := Nat.mul_le_mul_right _ hi
  unfold piece
  refine ⟨by rw [List.take_take, Nat.min_eq_left h1], ?_⟩
  rw [List.drop_take, List.drop_drop, Nat.sub_mul]

section
variable [Sg : Sig] {P : Program} {ι : Inj} {s : St} {w : World}

theorem ins_some {g : FuncId} {k : Nat} (hk : 0 < k) (hen : ∀ as w, (callFunc g as).run P w = .ok (.enter g as) w)
    (hrun : ∀ (S2 : Sig) (L0 L1 : List Value) (o n i C : Nat), i ≤ n → n ≤ C → n ≤ 4096 → o + C * k ≤ L0.length → L1.length = k → allV isCell L0 = true → allV isCell L1 = true →
      ∃ callK v s', @CallsOk S2 P callK ∧ callK g [.slice (some ⟨0, o, none⟩) n C, .int .i64 i, .slice (some ⟨1, 0, none⟩) 1 1] (s01 L0 L1) = some (v, s') ∧ InsDone k L0 L1 o n i C v s')
    (hs : SR ι s w) {b vb n i : Nat} {cs vs : List Value} (hb : s.heap.get b = some (.cells cs (some k) false)) (hv : s.heap.get vb = some (.cells vs none false)) (hne : b ≠ vb) (hcs : cs.length = n * k) (hvs : vs.length = k)
    (hvw : allV isWord vs = true) (hi : i ≤ n) (hn : n ≤ 4096) {bi vi : NI} (hbi : ι b = some bi) (hvi : ι vb = some vi) {C : Nat} (hC : CapOk bi 0 n C) (hle : n ≤ C) :
    Calls P g ⟨[.slice (some ⟨bi.blk, bi.d + 0, none⟩) n C, .int .i64 i, .slice (some ⟨vi.blk, vi.d + 0, none⟩) 1 1]⟩ w fun e w' => ∃ ι' v', e = .returned v' ∧ VR ι' (.slice (some ⟨s.next, 0, none⟩) (n + 1) (n + 1)) v' ∧
      Post ι s w ι' { heap := (s.heap.del b).set s.next (.cells (cs.take (i * k) ++ (vs ++ cs.drop (i * k))) (some k) false), next := s.next + 1 } w' := by
  obtain ⟨c, e, fr, b1, b2, b3, b4, b5, b6, b7, b8, b9⟩ := hs.cells hb hbi
  obtain ⟨cv, ev, frv, v1, v2, v3, v4, v5, v6, v7, v8, v9⟩ := hs.cells hv hvi
  obtain ⟨_, b9⟩ := b9 k rfl
  have hι := next_none hs
  have hsaB : bi.sa = n * k := by rw [← b2, hcs]
  have hsaV : vi.sa = k := by rw [← v2, hvs]
  rw [hsaV] at v4 v5
  rw [hsaB] at b4 b5
  have hVlen : (piece cv vi.d k).length = k := by rw [← v5.length, hvs]
  have hVcell := v5.isCell (isWords_cell hvw)
  have hCs : bi.d + C * k ≤ c.size := by
    rcases hC with rfl | ⟨k', _, hk', _, h2⟩
    · exact b4
    · rw [b3] at hk'; cases hk'
      rw [b8, ← h2]; omega
  have hCf : n + 1 ≤ C → bi.d + C * k = c.size := by
    intro h
    rcases hC with rfl | ⟨k', _, hk', _, h2⟩
    · omega
    · rw [b3] at hk'; cases hk'
      rw [b8, ← h2]; omega
  have hcl : c.toList.length = c.size := by simp
  generalize hV : piece cv vi.d k = V at v5 hVlen hVcell
  obtain ⟨B, hB⟩ : ∃ B : SigB, B.sg = rowSig (c.toList ++ V) := ⟨⟨_⟩, rfl⟩
  have d0 : @Det B.sg (symL 0 c.toList) c.toList := by
    rw [hB]
    exact symL_det (fun i v h => by
      have := (List.getElem?_eq_some_iff.1 h).1
      rw [Nat.zero_add, List.getElem?_append_left this]; exact h) b9
  have d1 : @Det B.sg (symL c.size V) V := by
    rw [hB]
    exact symL_det (fun i v h => by
      rw [List.getElem?_append_right (by rw [hcl]; omega), hcl, Nat.add_sub_cancel_left]; exact h) hVcell
  clear hB
  have d0r := @Det.rel B.sg _ _ d0
  have d1r := @Det.rel B.sg _ _ d1
  have d1u := @Det.un B.sg _ _ d1
  have l0 : (symL 0 c.toList).length = c.size := by rw [symL_length, hcl]
  have l1 : (symL c.size V).length = k := by rw [symL_length, hVlen]
  have c0 := symL_cell c.toList 0
  have c1 := symL_cell V c.size
  generalize symL 0 c.toList = L0 at d0 d0r l0 c0
  generalize symL c.size V = L1 at d1 d1r d1u l1 c1
  obtain ⟨callK, v, s', hok, hcall, hdone⟩ := hrun B.sg L0 L1 bi.d n i C hi hle hn (by rw [l0]; exact hCs) l1 c0 c1
  have hblk : bi.blk ≠ vi.blk := fun e => hne (hs.inj b vb _ _ bi vi hb hv (.inl rfl) hbi hvi e)
  have hbw : bi.blk < w.heap.size := (Array.getElem?_eq_some_iff.1 b1).1
  have hvw' : vi.blk < w.heap.size := (Array.getElem?_eq_some_iff.1 v1).1
  let N0 : NI := ⟨bi.blk, 0, c.size, c.size, none⟩
  let N1 : NI := ⟨vi.blk, vi.d, k, vi.sc, none⟩
  let ι2 : Inj := fun m => if m = 1 then some N1 else if m = 0 then some N0 else none
  have i0 : ι2 0 = some N0 := rfl
  have i1 : ι2 1 = some N1 := rfl
  have hs2 : @SR B.sg ι2 (s01 L0 L1) w := by
    refine @SR.mk B.sg _ _ _ ?_ ?_ ?_
    · intro m p hm
      rw [s01_get] at hm
      by_cases e1 : m = 1
      · subst e1
        rw [if_pos rfl] at hm; cases hm
        exact ⟨N1, i1, cv, ev, frv, v1, l1, rfl, v4, by show @LR B.sg _ _ (piece cv vi.d k); rw [hV]; exact d1r _, v6, v7, v8, fun k h => by cases h⟩
      · rw [if_neg e1] at hm
        by_cases e0 : m = 0
        · subst e0
          rw [if_pos rfl] at hm; cases hm
          exact ⟨N0, i0, c, e, fr, b1, l0, rfl, by show 0 + c.size ≤ c.size; omega, by show @LR B.sg _ _ (piece c 0 c.size); rw [piece_all]; exact d0r _, b6, b7, rfl, fun k h => by cases h⟩
        · rw [if_neg e0] at hm; cases hm
    · intro a b' p q ai bi' ha hb' _ hai hbi' hab
      rw [s01_get] at ha hb'
      by_cases a1 : a = 1
      · by_cases q1 : b' = 1
        · rw [a1, q1]
        · by_cases q0 : b' = 0
          · subst a1; subst q0
            rw [i1] at hai; rw [i0] at hbi'
            cases hai; cases hbi'
            exact absurd hab.symm hblk
          · rw [if_neg q1, if_neg q0] at hb'; cases hb'
      · by_cases a0 : a = 0
        · by_cases q1 : b' = 1
          · subst a0; subst q1
            rw [i0] at hai; rw [i1] at hbi'
            cases hai; cases hbi'
            exact absurd hab hblk
          · by_cases q0 : b' = 0
            · rw [a0, q0]
            · rw [if_neg q1, if_neg q0] at hb'; cases hb'
        · rw [if_neg a1, if_neg a0] at ha; cases ha
    · intro m ni hm
      show m < 2
      by_cases e1 : m = 1
      · omega
      · by_cases e0 : m = 0
        · omega
        · simp only [ι2, if_neg e1, if_neg e0] at hm; cases hm
  have hl2 : @LR B.sg ι2 [.slice (some ⟨0, bi.d, none⟩) n C, .int .i64 i, .slice (some ⟨1, 0, none⟩) 1 1] [.slice (some ⟨bi.blk, bi.d + 0, none⟩) n C, .int .i64 i, .slice (some ⟨vi.blk, vi.d + 0, none⟩) 1 1] := by
    refine @LR.cons B.sg _ _ _ _ _ ?_ (@LR.cons B.sg _ _ _ _ _ (@VR.int B.sg _ _ _) (@LR.cons B.sg _ _ _ _ _ ?_ (@LR.nil B.sg _)))
    · have := @VR.slice B.sg ι2 0 bi.d n C C N0 i0 (.inl rfl) (Nat.le_refl _)
      simpa [N0] using this
    · exact @VR.slice B.sg ι2 1 0 1 1 1 N1 i1 (.inl rfl) (Nat.le_refl _)
  refine (@CallDone.calls B.sg _ _ _ _ _ _ _ _ (hok g _ _ _ _ hcall ι2 w _ hs2 hl2) hen).mono ?_
  rintro e' w' ⟨ι2', v', rfl, hvr, hp⟩
  have hext := @Post.ext B.sg _ _ _ _ _ _ hp
  have hrel := @Post.rel B.sg _ _ _ _ _ _ hp
  have hobj := @SR.obj B.sg _ _ _ hrel
  have hinj := @SR.inj B.sg _ _ _ hrel
  have hframe := @Post.frame B.sg _ _ _ _ _ _ hp
  have hsize := @Post.size B.sg _ _ _ _ _ _ hp
  have hcalm := @Post.calm B.sg _ _ _ _ _ _ hp
  have hpwr := @Post.wr B.sg _ _ _ _ _ _ hp
  have j0 : ι2' 0 = some N0 := hext _ _ i0
  have j1 : ι2' 1 = some N1 := hext _ _ i1
  obtain ⟨n1, hn1, o1⟩ := hobj 1 _ hdone.one
  rw [j1] at hn1; cases hn1
  obtain ⟨x1, xe1, xf1, w1, w2, w3, w4, w5, w6, w7, w8, w9⟩ := o1
  have hV1 : piece x1 vi.d k = V := d1u _ _ w5
  have hfr : ∀ blk, blk < w.heap.size → blk ≠ bi.blk → blk ≠ vi.blk → w'.heap[blk]? = w.heap[blk]? := by
    intro blk hb1 hb2 hb3
    refine hframe blk hb1 fun m o ni hm _ hni => ?_
    rw [s01_get] at hm
    by_cases e1 : m = 1
    · subst e1; rw [i1] at hni; cases hni; exact fun e => hb3 e.symm
    · by_cases e0 : m = 0
      · subst e0; rw [i0] at hni; cases hni; exact fun e => hb2 e.symm
      · rw [if_neg e1, if_neg e0] at hm; cases hm
  have hfin : ∀ (niR : NI) (cR : Array Value) (eR : TypeId) (capR : Nat), w'.heap[niR.blk]? = some (.cells cR eR (0, 0)) → niR.sa = (n + 1) * k → niR.esz = some k → niR.d + niR.sa ≤ cR.size →
      piece cR niR.d niR.sa = (c.toList.drop bi.d).take (i * k) ++ (V ++ (c.toList.drop (bi.d + i * k)).take ((n - i) * k)) → cR.size = niR.sc → (∀ v ∈ cR.toList, isCell v = true) → niR.blk ≠ vi.blk → (w.heap.size ≤ niR.blk ∨ niR.blk = bi.blk) →
      v' = .slice (some ⟨niR.blk, niR.d + 0, none⟩) (n + 1) capR → CapOk niR 0 (n + 1) capR → n + 1 ≤ capR → ∃ ι' v'', Ending.returned v' = .returned v'' ∧ VR ι' (.slice (some ⟨s.next, 0, none⟩) (n + 1) (n + 1)) v'' ∧
      Post ι s w ι' { heap := (s.heap.del b).set s.next (.cells (cs.take (i * k) ++ (vs ++ cs.drop (i * k))) (some k) false), next := s.next + 1 } w' := by
    intro niR cR eR capR g1 g2 g3 g4 g5 g6 g7 g8 g9 g10 g11 g12
    have hx : Ext ι (upd ι s.next niR) := Ext.upd _ hι
    refine ⟨upd ι s.next niR, v', rfl, by rw [g10]; exact .slice s.next 0 (n + 1) (n + 1) capR niR (upd_same ..) g11 g12, ?_⟩
    have hik : i * k ≤ n * k := Nat.mul_le_mul_right _ hi
    refine post_row hs (niR := niR) ?_ ?_ ?_ hsize ?_ hcalm ?_
    · intro m p hm
      rw [Tr.get_del] at hm
      split at hm
      · cases hm
      · exact hm
    · refine ⟨cR, eR, (0, 0), g1, ?_, g3, g4, ?_, fun _ off _ => by simp, fun _ => rfl, g6, fun k' hk' => by cases hk'; exact ⟨hk, g7⟩⟩
      · rw [g2]; simp; rw [hcs, hvs, Nat.add_mul]; omega
      · rw [g5]
        obtain ⟨p1, p2⟩ := piece_ins (c := c) (d := bi.d) (k := k) hi
        rw [← p1, ← p2]
        exact ((b5.take _).append (v5.append (b5.drop _))).mono hx
    · intro m p mi hm hmi
      rw [Tr.get_del] at hm
      split at hm
      · cases hm
      · rename_i hmb
        by_cases hmv : m = vb
        · subst hmv
          rw [hv] at hm; cases hm
          rw [hvi] at hmi; cases hmi
          refine ⟨⟨x1, xe1, xf1, w1, v2, v3, by rw [hsaV]; exact w4, ?_, w6, w7, w8, fun k h => by cases h⟩, fun e => g8 e.symm⟩
          rw [hsaV, hV1]
          exact v5.mono hx
        · have n1 : mi.blk ≠ bi.blk := fun e => hmb (hs.inj m b p _ mi bi hm hb (.inr rfl) hmi hbi e)
          have n2 : mi.blk ≠ vi.blk := fun e => hmv (hs.inj m vb p _ mi vi hm hv (.inr rfl) hmi hvi e)
          obtain ⟨mi', q1, q2⟩ := hs.obj m p hm
          rw [hmi] at q1; cases q1
          have hlt := q2.blk
          refine ⟨q2.mono hx (hfr _ hlt n1 n2), fun e => ?_⟩
          rcases g9 with h | h
          · omega
          · exact n1 (e.trans h)
    · intro blk hb1 hb2
      exact hfr blk hb1 (fun e => hb2 b _ bi hb rfl hbi e.symm) (fun e => hb2 vb _ vi hv rfl hvi e.symm)
    · rcases g9 with h | h
      · exact .inl h
      · exact .inr ⟨b, _, bi, hb, rfl, hbi, h.symm⟩
  rcases hdone.out with ⟨q1, rfl, q3⟩ | ⟨r, q1, rfl, q3⟩
  · -- in place
    obtain ⟨n0, hn0, o0⟩ := hobj 0 _ q3
    rw [j0] at hn0; cases hn0
    obtain ⟨x0, xe0, xf0, y1, y2, y3, y4, y5, y6, y7, y8, y9⟩ := o0
    have hx0 : piece x0 0 c.size = _ := @Det.un B.sg _ _ (@Det.append B.sg _ _ _ _ (@Det.take B.sg _ _ d0 (bi.d + i * k)) (@Det.append B.sg _ _ _ _ d1 (@Det.append B.sg _ _ _ _ (@Det.take B.sg _ _ (@Det.drop B.sg _ _ d0 (bi.d + i * k)) ((n - i) * k)) (@Det.drop B.sg _ _ d0 (bi.d + (n + 1) * k))))) _ _ y5
    have y8' : x0.size = c.size := y8
    rw [← y8', piece_all] at hx0
    cases y7 rfl
    have hCf := hCf q1
    have hnk : (n + 1) * k ≤ C * k := Nat.mul_le_mul_right _ q1
    have hik : i * k ≤ n * k := Nat.mul_le_mul_right _ hi
    have e1 : (n + 1) * k = n * k + k := by rw [Nat.add_mul, Nat.one_mul]
    have e2 : (n - i) * k = n * k - i * k := Nat.sub_mul ..
    have hv'' : ∃ cap', v' = .slice (some ⟨bi.blk, bi.d + 0, none⟩) (n + 1) cap' ∧ cap' = C := by
      generalize hvv : v' = vv at hvr
      cases hvr with
      | slice n' off len cap cap' ni h hc hle =>
        rw [j0] at h; cases h
        refine ⟨cap', by simp [N0], ?_⟩
        rcases hc with h | ⟨k', _, h, _⟩
        · exact h
        · cases h
    obtain ⟨cap', hv1, rfl⟩ := hv''
    refine hfin ⟨bi.blk, bi.d, (n + 1) * k, c.size, some k⟩ x0 xe0 cap' y1 rfl rfl (by show bi.d + (n + 1) * k ≤ x0.size; omega) ?_ y8' ?_ hblk (.inr rfl) hv1 (.inr ⟨k, hk, rfl, by simp, by show bi.d + 0 + cap' * k = c.size; omega⟩) q1
    · show ((x0.toList.drop bi.d).take ((n + 1) * k)) = _
      rw [hx0]
      have t1 : (c.toList.take (bi.d + i * k)).length = bi.d + i * k := by rw [List.length_take]; omega
      have t2 : ((c.toList.drop (bi.d + i * k)).take ((n - i) * k)).length = (n - i) * k := by rw [List.length_take, List.length_drop]; omega
      rw [List.drop_append_of_le_length (by rw [t1]; omega)]
      have t3 : ((c.toList.take (bi.d + i * k)).drop bi.d) = (c.toList.drop bi.d).take (i * k) := by rw [List.drop_take]; congr 1; omega
      rw [t3]
      have t4 : ((c.toList.drop bi.d).take (i * k)).length = i * k := by rw [List.length_take, List.length_drop]; omega
      rw [← List.append_assoc V, ← List.append_assoc, ← List.append_assoc, List.take_left' (by simp only [List.length_append, t4, hVlen, t2]; omega)]
    · intro v hv'
      rw [hx0] at hv'
      rcases List.mem_append.1 hv' with h | h
      · exact b9 v (List.mem_of_mem_take h)
      · rcases List.mem_append.1 h with h | h
        · exact hVcell v h
        · rcases List.mem_append.1 h with h | h
          · exact b9 v (List.mem_of_mem_drop (List.mem_of_mem_take h))
          · exact b9 v (List.mem_of_mem_drop h)
  · -- a new row
    obtain ⟨nr, hnr, or⟩ := hobj r _ q3
    obtain ⟨x0, xe0, xf0, y1, y2, y3, y4, y5, y6, y7, y8, y9⟩ := or
    obtain ⟨_, y9⟩ := y9 k rfl
    have hx0 := @Det.un B.sg _ _ (@Det.append B.sg _ _ _ _ (@Det.take B.sg _ _ (@Det.drop B.sg _ _ d0 bi.d) (i * k)) (@Det.append B.sg _ _ _ _ d1 (@Det.take B.sg _ _ (@Det.drop B.sg _ _ d0 (bi.d + i * k)) ((n - i) * k)))) _ _ y5
    cases y7 rfl
    have hik : i * k ≤ n * k := Nat.mul_le_mul_right _ hi
    have e1 : (n + 1) * k = n * k + k := by rw [Nat.add_mul, Nat.one_mul]
    have e2 : (n - i) * k = n * k - i * k := Nat.sub_mul ..
    have hnC : n * k ≤ C * k := Nat.mul_le_mul_right _ hle
    have hsa : nr.sa = (n + 1) * k := by
      rw [← y2]
      simp only [List.length_append, List.length_take, List.length_drop, l0, l1]
      omega
    generalize hvv : v' = vv at hvr
    cases hvr with
    | slice n' off len cap cap' ni h hc hle' =>
      rw [hnr] at h; cases h
      subst hvv
      refine hfin nr x0 xe0 cap' y1 hsa y3 y4 hx0 y8 y9 ?_ ?_ rfl hc hle'
      · intro e
        exact q1 (hinj r 1 _ _ nr N1 q3 hdone.one (.inl rfl) hnr j1 e)
      · rcases hpwr r _ nr q3 rfl hnr with h | ⟨m, p, mi, h1, _, h3, h4⟩
        · exact .inl h
        · rw [s01_get] at h1
          by_cases e1 : m = 1
          · subst e1
            rw [i1] at h3; cases h3
            exact absurd (hinj r 1 _ _ nr N1 q3 hdone.one (.inl rfl) hnr j1 h4.symm) q1
          · by_cases e0 : m = 0
            · subst e0
              rw [i0] at h3; cases h3
              exact .inr h4.symm
            · rw [if_neg e1, if_neg e0] at h1; cases h1

/-- A row that is put into no row. -/
theorem ins_none {g : FuncId} {k : Nat} (hk : 0 < k) (hen : ∀ as w, (callFunc g as).run P w = .ok (.enter g as) w)
    (hnil : ∀ (S2 : Sig) (L1 : List Value) (a : Option Addr), (a = none ∨ a = some ⟨1, 0, none⟩) → L1.length = k → allV isCell L1 = true →
      ∃ callK v s', @CallsOk S2 P callK ∧ callK g [.slice a 0 0, .int .i64 0, .slice (some ⟨1, 0, none⟩) 1 1] (s1 L1) = some (v, s') ∧ InsNew k L1 v s')
    (hs : SR ι s w) {vb : Nat} {vs : List Value} (hv : s.heap.get vb = some (.cells vs none false)) (hvs : vs.length = k)
    (hvw : allV isWord vs = true) {vi : NI} (hvi : ι vb = some vi) {h0 : Tr AObj} (hsub : ∀ m p, h0.get m = some p → s.heap.get m = some p) {y : Value} {a : Option Addr} (ha : a = none ∨ a = some ⟨1, 0, none⟩)
    (hy : ∀ (S2 : Sig) (ι2 : Inj), @VR S2 ι2 (.slice a 0 0) y) :
    Calls P g ⟨[y, .int .i64 0, .slice (some ⟨vi.blk, vi.d + 0, none⟩) 1 1]⟩ w fun e w' => ∃ ι' v', e = .returned v' ∧ VR ι' (.slice (some ⟨s.next, 0, none⟩) 1 1) v' ∧
      Post ι s w ι' { heap := h0.set s.next (.cells vs (some k) false), next := s.next + 1 } w' := by
  obtain ⟨cv, ev, frv, v1, v2, v3, v4, v5, v6, v7, v8, v9⟩ := hs.cells hv hvi
  have hι := next_none hs
  have hsaV : vi.sa = k := by rw [← v2, hvs]
  rw [hsaV] at v4 v5
  have hVlen : (piece cv vi.d k).length = k := by rw [← v5.length, hvs]
  have hVcell := v5.isCell (isWords_cell hvw)
  generalize hV : piece cv vi.d k = V at v5 hVlen hVcell
  obtain ⟨B, hB⟩ : ∃ B : SigB, B.sg = rowSig V := ⟨⟨_⟩, rfl⟩
  have d1 : @Det B.sg (symL 0 V) V := by
    rw [hB]
    exact symL_det (fun i v h => by rw [Nat.zero_add]; exact h) hVcell
  clear hB
  have d1r := @Det.rel B.sg _ _ d1
  have d1u := @Det.un B.sg _ _ d1
  have l1 : (symL 0 V).length = k := by rw [symL_length, hVlen]
  have c1 := symL_cell V 0
  generalize symL 0 V = L1 at d1 d1r d1u l1 c1
  obtain ⟨callK, v, s', hok, hcall, hdone⟩ := hnil B.sg L1 a ha l1 c1
  have hvw' : vi.blk < w.heap.size := (Array.getElem?_eq_some_iff.1 v1).1
  let N1 : NI := ⟨vi.blk, vi.d, k, vi.sc, none⟩
  let ι2 : Inj := fun m => if m = 1 then some N1 else none
  have i1 : ι2 1 = some N1 := rfl
  have hs2 : @SR B.sg ι2 (s1 L1) w := by
    refine @SR.mk B.sg _ _ _ ?_ ?_ ?_
    · intro m p hm
      rw [s1_get] at hm
      by_cases e1 : m = 1
      · subst e1
        rw [if_pos rfl] at hm; cases hm
        exact ⟨N1, i1, cv, ev, frv, v1, l1, rfl, v4, by show @LR B.sg _ _ (piece cv vi.d k); rw [hV]; exact d1r _, v6, v7, v8, fun k h => by cases h⟩
      · rw [if_neg e1] at hm; cases hm
    · intro a b' p q ai bi' ha hb' _ hai hbi' hab
      rw [s1_get] at ha hb'
      by_cases a1 : a = 1
      · by_cases q1 : b' = 1
        · rw [a1, q1]
        · rw [if_neg q1] at hb'; cases hb'
      · rw [if_neg a1] at ha; cases ha
    · intro m ni hm
      show m < 2
      by_cases e1 : m = 1
      · omega
      · simp only [ι2, if_neg e1] at hm; cases hm
  have hl2 : @LR B.sg ι2 [.slice a 0 0, .int .i64 0, .slice (some ⟨1, 0, none⟩) 1 1] [y, .int .i64 0, .slice (some ⟨vi.blk, vi.d + 0, none⟩) 1 1] :=
    @LR.cons B.sg _ _ _ _ _ (hy B.sg ι2) (@LR.cons B.sg _ _ _ _ _ (@VR.int B.sg _ _ _) (@LR.cons B.sg _ _ _ _ _ (@VR.slice B.sg ι2 1 0 1 1 1 N1 i1 (.inl rfl) (Nat.le_refl _)) (@LR.nil B.sg _)))
  refine (@CallDone.calls B.sg _ _ _ _ _ _ _ _ (hok g _ _ _ _ hcall ι2 w _ hs2 hl2) hen).mono ?_
  rintro e' w' ⟨ι2', v', rfl, hvr, hp⟩
  have hext := @Post.ext B.sg _ _ _ _ _ _ hp
  have hrel := @Post.rel B.sg _ _ _ _ _ _ hp
  have hobj := @SR.obj B.sg _ _ _ hrel
  have hinj := @SR.inj B.sg _ _ _ hrel
  have hframe := @Post.frame B.sg _ _ _ _ _ _ hp
  have hsize := @Post.size B.sg _ _ _ _ _ _ hp
  have hcalm := @Post.calm B.sg _ _ _ _ _ _ hp
  have hpwr := @Post.wr B.sg _ _ _ _ _ _ hp
  have j1 : ι2' 1 = some N1 := hext _ _ i1
  obtain ⟨n1, hn1, o1⟩ := hobj 1 _ hdone.one
  rw [j1] at hn1; cases hn1
  obtain ⟨x1, xe1, xf1, w1, w2, w3, w4, w5, w6, w7, w8, w9⟩ := o1
  have hV1 : piece x1 vi.d k = V := d1u _ _ w5
  have hfr : ∀ blk, blk < w.heap.size → blk ≠ vi.blk → w'.heap[blk]? = w.heap[blk]? := by
    intro blk hb1 hb3
    refine hframe blk hb1 fun m o ni hm _ hni => ?_
    rw [s1_get] at hm
    by_cases e1 : m = 1
    · subst e1; rw [i1] at hni; cases hni; exact fun e => hb3 e.symm
    · rw [if_neg e1] at hm; cases hm
  obtain ⟨r, q1, rfl, q3⟩ := hdone.out
  obtain ⟨nr, hnr, or⟩ := hobj r _ q3
  obtain ⟨x0, xe0, xf0, y1, y2, y3, y4, y5, y6, y7, y8, y9⟩ := or
  obtain ⟨_, y9⟩ := y9 k rfl
  have hx0 := d1u _ _ y5
  cases y7 rfl
  have hsa : nr.sa = k := by rw [← y2]; exact l1
  have hnb : nr.blk ≠ vi.blk := fun e => q1 (hinj r 1 _ _ nr N1 q3 hdone.one (.inl rfl) hnr j1 e)
  have hge : w.heap.size ≤ nr.blk := by
    rcases hpwr r _ nr q3 rfl hnr with h | ⟨m, p, mi, h1, _, h3, h4⟩
    · exact h
    · rw [s1_get] at h1
      by_cases e1 : m = 1
      · subst e1
        rw [i1] at h3; cases h3
        exact absurd h4.symm hnb
      · rw [if_neg e1] at h1; cases h1
  have hx : Ext ι (upd ι s.next nr) := Ext.upd _ hι
  generalize hvv : v' = vv at hvr
  cases hvr with
  | slice n' off len cap cap' ni h hc hle' =>
    rw [hnr] at h; cases h
    subst hvv
    refine ⟨upd ι s.next nr, _, rfl, .slice s.next 0 1 1 cap' nr (upd_same ..) hc hle', ?_⟩
    refine post_row hs (niR := nr) hsub ?_ ?_ hsize ?_ hcalm (.inl hge)
    · refine ⟨x0, xe0, (0, 0), y1, by rw [hsa]; exact hvs, y3, y4, ?_, fun _ off _ => by simp, fun _ => rfl, y8, fun k' hk' => by cases hk'; exact ⟨hk, y9⟩⟩
      rw [hx0]
      exact v5.mono hx
    · intro m p mi hm hmi
      have hm := hsub m p hm
      by_cases hmv : m = vb
      · subst hmv
        rw [hv] at hm; cases hm
        rw [hvi] at hmi; cases hmi
        refine ⟨⟨x1, xe1, xf1, w1, v2, v3, by rw [hsaV]; exact w4, ?_, w6, w7, w8, fun k h => by cases h⟩, fun e => hnb e.symm⟩
        rw [hsaV, hV1]
        exact v5.mono hx
      · have n2 : mi.blk ≠ vi.blk := fun e => hmv (hs.inj m vb p _ mi vi hm hv (.inr rfl) hmi hvi e)
        obtain ⟨mi', q1, q2⟩ := hs.obj m p hm
        rw [hmi] at q1; cases q1
        have hlt := q2.blk
        exact ⟨q2.mono hx (hfr _ hlt n2), fun e => by omega⟩
    · intro blk hb1 hb2
      exact hfr blk hb1 (fun e => hb2 vb _ vi hv rfl hvi e.symm)

theorem ins_prim {g : FuncId} {k : Nat} (hk : 0 < k) (hen : ∀ as w, (callFunc g as).run P w = .ok (.enter g as) w)
    (hrun : ∀ (S2 : Sig) (L0 L1 : List Value) (o n i C : Nat), i ≤ n → n ≤ C → n ≤ 4096 → o + C * k ≤ L0.length → L1.length = k → allV isCell L0 = true → allV isCell L1 = true →
      ∃ callK v s', @CallsOk S2 P callK ∧ callK g [.slice (some ⟨0, o, none⟩) n C, .int .i64 i, .slice (some ⟨1, 0, none⟩) 1 1] (s01 L0 L1) = some (v, s') ∧ InsDone k L0 L1 o n i C v s')
    (hnil : ∀ (S2 : Sig) (L1 : List Value) (a : Option Addr), (a = none ∨ a = some ⟨1, 0, none⟩) → L1.length = k → allV isCell L1 = true →
      ∃ callK v s', @CallsOk S2 P callK ∧ callK g [.slice a 0 0, .int .i64 0, .slice (some ⟨1, 0, none⟩) 1 1] (s1 L1) = some (v, s') ∧ InsNew k L1 v s') : PrimOk P g (insP k) := by
  intro args s v s' h ι w ws hs hl
  unfold insP at h
  split at h
  case h_2 => cases h
  case h_1 x n c i vb =>
  cases hl with
  | cons _ y0 _ ys0 hy0 hl =>
  cases hl with
  | cons _ y1 _ ys1 hy1 hl =>
  cases hl with
  | cons _ y2 _ ys2 hy2 hl =>
  cases hl
  cases hy1
  cases hv : s.heap.get vb with
  | none => rw [hv] at h; cases h
  | some ob =>
    rw [hv] at h
    cases ob <;> (try simp only at h) <;> (try (cases h; done))
    rename_i vs esz ro
    cases esz <;> cases ro <;> (try simp only at h) <;> (try (cases h; done))
    cases hck : (Nat.beq vs.length k && allV isWord vs && decide (0 ≤ i ∧ i ≤ n) && decide (n ≤ 4096) && Nat.beq c n) with
    | false => rw [hck] at h; cases h
    | true =>
      rw [hck] at h
      simp only [cond_true] at h
      simp only [Bool.and_eq_true, nat_beq_eq, decide_eq_true_eq] at hck
      obtain ⟨⟨⟨⟨k1, k2⟩, k3⟩, k4⟩, rfl⟩ := hck
      have hv2 : ∃ vi, ι vb = some vi ∧ y2 = .slice (some ⟨vi.blk, vi.d + 0, none⟩) 1 1 := by
        generalize hy : y2 = yy at hy2
        cases hy2 with
        | slice n' off len cap cap' ni h hc hle =>
          refine ⟨ni, h, ?_⟩
          have hes : ni.esz = none := by obtain ⟨_, _, _, _, _, h3, _⟩ := hs.cells hv h; exact h3
          rcases hc with rfl | ⟨k, _, hk, _⟩
          · rfl
          · rw [hes] at hk; cases hk
      obtain ⟨vi, hvi, rfl⟩ := hv2
      cases x with
      | none =>
        simp only at h
        cases hn0 : Nat.beq c 0 with
        | false => rw [hn0] at h; cases h
        | true =>
          rw [hn0] at h
          simp only [cond_true] at h
          have := Nat.eq_of_beq_eq_true hn0
          subst this
          cases h
          have hi : i = 0 := by omega
          subst hi
          generalize hyy : y0 = yy at hy0
          cases hy0
          exact ins_none hk hen hnil hs hv k1 k2 hvi (fun _ _ h => h) (.inl rfl) (fun S2 ι2 => @VR.snil S2 ι2 0 0)
      | some ab =>
        obtain ⟨b, off, sp⟩ := ab
        cases off with
        | succ off => simp only at h; cases h
        | zero =>
          cases sp with
          | some sp => simp only at h; cases h
          | none =>
            simp only at h
            cases hb : s.heap.get b with
            | none => rw [hb] at h; cases h
            | some ob =>
              rw [hb] at h
              cases ob <;> (try simp only at h) <;> (try (cases h; done))
              rename_i cs esz ro
              cases esz <;> cases ro <;> (try simp only at h) <;> (try (cases h; done))
              rename_i k'
              cases hck : (Nat.beq k' k && Nat.beq cs.length (c * k) && !(Nat.beq b vb)) with
              | false => rw [hck] at h; cases h
              | true =>
                rw [hck] at h
                simp only [cond_true] at h
                simp only [Bool.and_eq_true, nat_beq_eq, decide_eq_true_eq, Bool.not_eq_true', decide_eq_false_iff_not] at hck
                obtain ⟨⟨rfl, q2⟩, q3⟩ := hck
                cases h
                generalize hyy : y0 = yy at hy0
                cases hy0 with
                | slice n' off len cap cap' ni h hc hle =>
                  have := ins_some hk hen hrun hs (i := i.toNat) hb hv q3 q2 k1 k2 (by omega) k4 h hvi hc hle
                  have ei : ((i.toNat : Nat) : Int) = i := by omega
                  rw [ei] at this
                  exact this
                | szero a a' =>
                  have hi : i = 0 := by omega
                  subst hi
                  have hcs0 : cs = [] := List.length_eq_zero_iff.1 (by rw [q2, Nat.zero_mul])
                  subst hcs0
                  have hsub : ∀ m p, (s.heap.del b).get m = some p → s.heap.get m = some p := by
                    intro m p hm
                    rw [Tr.get_del] at hm
                    split at hm
                    · cases hm
                    · exact hm
                  have := ins_none hk hen hnil hs hv k1 k2 hvi hsub (.inr rfl) (fun S2 ι2 => @VR.szero S2 ι2 ⟨1, 0, none⟩ a')
                  simpa using this

end

end Go.Sh
