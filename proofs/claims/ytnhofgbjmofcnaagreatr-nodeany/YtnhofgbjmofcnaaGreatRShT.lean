/-
  A shadow interpreter for the model's operations: a region's steps. (No program in it.)
-/
import Derived.Test.YtnhofgbjmofcnaaGreatRShS
namespace Go.Sh
open Go

variable [Sg : Sig]

omit Sg in
theorem put_of_n {a b a' : AA} {dst : Option Tmp} {v : Value} (h : a.put dst v = some a') (hn : b.n = a.n) : ∃ b', b.put dst v = some b' := by
  unfold AA.put at *
  cases dst with
  | none => exact ⟨_, rfl⟩
  | some d =>
    simp only at h ⊢
    rw [hn]
    cases hb : Nat.blt d a.n with
    | false => rw [hb] at h; cases h
    | true => exact ⟨_, rfl⟩

section
variable {E : Env} {P : Program} {ops : Array Oper} {pl : List PStep} {A : Nat → AA} {C : Nat → St} {callK : CallK} {base : Nat}
variable {ι0 ι ι' : Inj} {s0 H H' : St} {w0 w w' : World} {listed : Array Bool} {ac : Act} {q : Nat} {aE aE' : AA}

/-- The temporaries after an operation. -/
theorem stands_tmps (hT : Tra E callK ops.toList base pl A C) (hF : PlanFacts E ops pl) (hI : Stands E ops pl A C base ι0 s0 w0 listed ac w q ι aE H) {p : Nat} {x : PStep} {o : Oper} (hx : pl[p]? = some x) (ho : ops[x.i]? = some o)
    {v v' : Value} (hput : (A p).put o.dst v = some (A (p + 1))) (haE : aE.put o.dst v = some aE') (hxt : Ext ι ι') (hv : VR ι' v v') :
    AR ι' aE' (ac.put o.dst v') ∧ aE'.n = (A 0).n ∧ aE'.df = (A 0).df ∧
    (∀ (r : Nat) (y : PStep) (oy : Oper) (t : Nat), pl[r]? = some y → ops[y.i]? = some oy → oy.dst = some t → Lst (listed.setIfInBounds x.i true) y.i → aE'.look t = (A pl.length).look t) ∧
    (∀ t, (∀ (r : Nat) (y : PStep) (oy : Oper), pl[r]? = some y → ops[y.i]? = some oy → Lst (listed.setIfInBounds x.i true) y.i → oy.dst ≠ some t) → aE'.look t = (A 0).look t) := by
  have hp : p < pl.length := (List.getElem?_eq_some_iff.1 hx).1
  have hsz : x.i < listed.size := by rw [hI.size]; exact (Array.getElem?_eq_some_iff.1 ho).1
  obtain ⟨h1, h2, h3, h4⟩ := AA.look_put haE
  obtain ⟨_, _, _, h5⟩ := AA.look_put hput
  have own : ∀ t, o.dst = some t → aE'.look t = (A pl.length).look t := by
    intro t ht
    rw [h4, if_pos ht, tra_end hT hF hx ho ht (p := p + 1) (by omega) (by omega), h5, if_pos ht]
  refine ⟨(hI.ar.mono hxt).put haE hv, h1.trans hI.an, h2.trans hI.ad, ?_, ?_⟩
  · intro r y oy t hy hoy hd hl
    rw [lst_set hsz] at hl
    by_cases ht : o.dst = some t
    · exact own t ht
    · rw [h4, if_neg ht]
      rcases hl with hl | hl
      · have := uniqi hF hy hx hoy ho hl
        subst this
        rw [hx] at hy; cases hy
        rw [ho] at hoy; cases hoy
        exact absurd hd ht
      · exact hI.tl r y oy t hy hoy hd hl
  · intro t hn
    have ht : o.dst ≠ some t := hn p x o hx ho ((lst_set hsz).2 (.inl rfl))
    rw [h4, if_neg ht]
    exact hI.tu t fun r y oy hy hoy hl => hn r y oy hy hoy ((lst_set hsz).2 (.inr hl))

theorem closed_set (hI : Stands E ops pl A C base ι0 s0 w0 listed ac w q ι aE H) {i : Nat} {o : Oper} (ho : ops[i]? = some o) (hr : ∀ e ∈ o.after, Region.binds .any e = true → Lst listed e.on) : Closed ops (Lst (listed.setIfInBounds i true)) := by
  have hsz : i < listed.size := by rw [hI.size]; exact (Array.getElem?_eq_some_iff.1 ho).1
  intro j oj hl hoj e he hb
  rw [lst_set hsz] at hl ⊢
  rcases hl with rfl | hl
  · rw [ho] at hoj; cases hoj
    exact .inr (hr e he hb)
  · exact .inr (hI.closed j oj hl hoj e he hb)

/-- An operation that neither writes nor makes. -/
theorem stands_still (hT : Tra E callK ops.toList base pl A C) (hF : PlanFacts E ops pl) (hI : Stands E ops pl A C base ι0 s0 w0 listed ac w q ι aE H) {p : Nat} {x : PStep} {o : Oper} (hx : pl[p]? = some x) (ho : ops[x.i]? = some o)
    (hnl : ¬ Lst listed x.i) (hr : ∀ e ∈ o.after, Region.binds .any e = true → Lst listed e.on) (hc : isCh (cls E o.op) = false) (hm : made E ops A p o = none)
    {v v' : Value} (hput : (A p).put o.dst v = some (A (p + 1))) (haE : aE.put o.dst v = some aE') (hv : VR ι v v') :
    Stands E ops pl A C base ι0 s0 w0 (listed.setIfInBounds x.i true) (ac.put o.dst v') w q ι aE' H := by
  have hsz : x.i < listed.size := by rw [hI.size]; exact (Array.getElem?_eq_some_iff.1 ho).1
  obtain ⟨t1, t2, t3, t4, t5⟩ := stands_tmps hT hF hI hx ho hput haE (Ext.refl ι) hv
  refine ⟨by simp [hI.size], closed_set hI ho hr, hI.qle, hI.qc, ?_, ?_, t1, t2, t3, t4, t5, hI.post, hI.low, hI.next, hI.room, ?_, ?_, hI.g2, hI.g3⟩
  · intro r y oy hy hoy hcy
    rw [lst_set hsz, ← hI.ch r y oy hy hoy hcy]
    constructor
    · rintro (h | h)
      · have := uniqi hF hy hx hoy ho h
        subst this
        rw [hx] at hy; cases hy
        rw [ho] at hoy; cases hoy
        rw [hc] at hcy; cases hcy
      · exact h
    · exact .inr
  · intro r y oy hy hoy hcy hlt
    exact (lst_set hsz).2 (.inr (hI.al r y oy hy hoy hcy hlt))
  · intro r y hy hl
    exact hI.un r y hy fun h => hl ((lst_set hsz).2 (.inr h))
  · intro r y oy hq hy hoy
    rw [hI.g1 r y oy hq hy hoy]
    by_cases e : y.i = x.i
    · have := uniqi hF hy hx hoy ho e
      subst this
      rw [hx] at hy; cases hy
      rw [ho] at hoy; cases hoy
      rw [if_neg hnl, if_pos ((lst_set hsz).2 (.inl rfl)), hm]
    · have : Lst (listed.setIfInBounds x.i true) y.i ↔ Lst listed y.i := by
        rw [lst_set hsz]; simp [e]
      by_cases hl : Lst listed y.i
      · rw [if_pos hl, if_pos (this.2 hl)]
      · rw [if_neg hl, if_neg (fun h => hl (this.1 h))]

/-- An operation that makes something. -/
theorem stands_alloc (hT : Tra E callK ops.toList base pl A C) (hF : PlanFacts E ops pl) (hI : Stands E ops pl A C base ι0 s0 w0 listed ac w q ι aE H) {p : Nat} {x : PStep} {o : Oper} (hx : pl[p]? = some x) (ho : ops[x.i]? = some o)
    (hnl : ¬ Lst listed x.i) (hr : ∀ e ∈ o.after, Region.binds .any e = true → Lst listed e.on) (hc : cls E o.op = .alloc) {ob : AObj} (hm : made E ops A p o = some ob)
    {v v' : Value} (hput : (A p).put o.dst v = some (A (p + 1))) (haE : aE.put o.dst v = some aE') {ni : NI} {ob' : Obj} (hz : ∀ off, fzObj (some ob') off = false) (hblk : ni.blk = w.heap.size)
    (hor : OR (upd ι (base + x.i) ni) (wpush w ob') ni ob) (hv : VR (upd ι (base + x.i) ni) v v') :
    Stands E ops pl A C base ι0 s0 w0 (listed.setIfInBounds x.i true) (ac.put o.dst v') (wpush w ob') q (upd ι (base + x.i) ni) aE' { H with heap := H.heap.set (base + x.i) ob } := by
  have hlt : x.i < ops.size := (Array.getElem?_eq_some_iff.1 ho).1
  have hsz : x.i < listed.size := by rw [hI.size]; exact hlt
  have hun := hI.un p x hx hnl
  have hqp : q ≤ p := by
    rcases Nat.lt_or_ge p q with h | h
    · exact absurd (hI.al p x o hx ho hc h) hnl
    · exact h
  have hroom := hI.room
  have hlow := hI.low
  have hnext := hI.next
  obtain ⟨t1, t2, t3, t4, t5⟩ := stands_tmps hT hF hI hx ho hput haE (Ext.upd ni hun) hv
  refine ⟨by simp [hI.size], closed_set hI ho hr, hI.qle, hI.qc, ?_, ?_, t1, t2, t3, t4, t5, hI.post.pushAt (by omega) (by omega) hun hblk hor hz, hI.low, hI.next, hI.room, ?_, ?_, ?_, hI.g3⟩
  · intro r y oy hy hoy hcy
    rw [lst_set hsz, ← hI.ch r y oy hy hoy hcy]
    constructor
    · rintro (h | h)
      · have := uniqi hF hy hx hoy ho h
        subst this
        rw [hx] at hy; cases hy
        rw [ho] at hoy; cases hoy
        rw [hc] at hcy; cases hcy
      · exact h
    · exact .inr
  · intro r y oy hy hoy hcy hlt
    exact (lst_set hsz).2 (.inr (hI.al r y oy hy hoy hcy hlt))
  · intro r y hy hl
    have hne : base + y.i ≠ base + x.i := fun e => hl ((lst_set hsz).2 (.inl (by omega)))
    rw [upd_ne _ _ hne]
    exact hI.un r y hy fun h => hl ((lst_set hsz).2 (.inr h))
  · intro r y oy hq hy hoy
    simp only [Tr.get_set]
    by_cases e : y.i = x.i
    · have := uniqi hF hy hx hoy ho e
      subst this
      rw [hx] at hy; cases hy
      rw [ho] at hoy; cases hoy
      rw [if_pos rfl, if_pos ((lst_set hsz).2 (.inl rfl)), hm]
    · rw [if_neg (by omega), hI.g1 r y oy hq hy hoy]
      have : Lst (listed.setIfInBounds x.i true) y.i ↔ Lst listed y.i := by
        rw [lst_set hsz]; simp [e]
      by_cases hl : Lst listed y.i
      · rw [if_pos hl, if_pos (this.2 hl)]
      · rw [if_neg hl, if_neg (fun h => hl (this.1 h))]
  · intro m hm'
    simp only [Tr.get_set]
    rw [if_neg (hm' p x hqp hx)]
    exact hI.g2 m hm'

/-- What an operation that may write finds. -/
theorem at_chain (hT : Tra E callK ops.toList base pl A C) (hF : PlanFacts E ops pl) (hI : Stands E ops pl A C base ι0 s0 w0 listed ac w q ι aE H) {p : Nat} {x : PStep} {o : Oper} (hx : pl[p]? = some x) (ho : ops[x.i]? = some o)
    (hr : ∀ e ∈ o.after, Region.binds .any e = true → Lst listed e.on) (hc : cls E o.op = .read ∨ isCh (cls E o.op) = true) (hqp : q ≤ p) :
    (C p).next = H.next ∧ (∀ r y, p ≤ r → pl[r]? = some y → (C p).heap.get (base + y.i) = none) ∧ (∀ m ob, (C p).heap.get m = some ob → H.heap.get m = some ob) ∧ SR ι (C p) w := by
  have hp : p < pl.length := (List.getElem?_eq_some_iff.1 hx).1
  obtain ⟨h1, h2, h3⟩ := inv_at hT hF hI hqp (Nat.le_of_lt hp)
    (fun r y oy hr1 hr2 hy hoy => by
      cases hcy : isCh (cls E oy.op) with
      | false => rfl
      | true =>
        have hb : Bef ops y.i x.i := by
          rcases hc with hc | hc
          · exact (hF.two r p y x oy o hr2 hy hx hoy ho).after hcy hc
          · exact (hF.two r p y x oy o hr2 hy hx hoy ho).chain hcy hc
        have := (hI.ch r y oy hy hoy hcy).1 (hb _ hI.closed o ho hr)
        omega)
    (fun r y oy hr2 hy hoy hcy => (hF.two r p y x oy o hr2 hy hx hoy ho).made hcy hc _ hI.closed o ho hr)
  have hsub : ∀ m ob, (C p).heap.get m = some ob → H.heap.get m = some ob := by
    intro m ob hm
    rw [← h3 m]
    · exact hm
    · intro r y hr1 hy e
      subst e
      rw [h2 r y hr1 hy] at hm; cases hm
  exact ⟨h1, h2, hsub, hI.post.rel.sub hsub (Nat.le_of_eq h1.symm)⟩

/-- An operation that may write. -/
theorem stands_chain (hT : Tra E callK ops.toList base pl A C) (hF : PlanFacts E ops pl) (hI : Stands E ops pl A C base ι0 s0 w0 listed ac w q ι aE H) {p : Nat} {x : PStep} {o : Oper} (hx : pl[p]? = some x) (ho : ops[x.i]? = some o)
    (hr : ∀ e ∈ o.after, Region.binds .any e = true → Lst listed e.on) (hc : isCh (cls E o.op) = true) (hqp : q ≤ p)
    {v v' : Value} (hput : (A p).put o.dst v = some (A (p + 1))) (haE : aE.put o.dst v = some aE') (hv : VR ι' v v') (hpost : Post ι (C p) w ι' (C (p + 1)) w') :
    ∃ H', Stands E ops pl A C base ι0 s0 w0 (listed.setIfInBounds x.i true) (ac.put o.dst v') w' (p + 1) ι' aE' H' := by
  have hlt : x.i < ops.size := (Array.getElem?_eq_some_iff.1 ho).1
  have hsz : x.i < listed.size := by rw [hI.size]; exact hlt
  have hp : p < pl.length := (List.getElem?_eq_some_iff.1 hx).1
  obtain ⟨h1, h2, h3, _⟩ := at_chain hT hF hI hx ho hr (.inr hc) hqp
  obtain ⟨t1, t2, t3, t4, t5⟩ := stands_tmps hT hF hI hx ho hput haE hpost.ext hv
  obtain ⟨T, hTr⟩ := Tr.patch (C (p + 1)).heap H.heap ((pl.drop (p + 1)).map fun y => base + y.i)
  have hM : ∀ m, m ∈ ((pl.drop (p + 1)).map fun y => base + y.i) ↔ ∃ r y, p + 1 ≤ r ∧ pl[r]? = some y ∧ m = base + y.i := by
    intro m
    rw [List.mem_map]
    constructor
    · rintro ⟨y, hy, rfl⟩
      obtain ⟨k, hk⟩ := List.mem_iff_getElem?.1 hy
      rw [List.getElem?_drop] at hk
      exact ⟨p + 1 + k, y, by omega, hk, rfl⟩
    · rintro ⟨r, y, hr1, hy, rfl⟩
      refine ⟨y, List.mem_iff_getElem?.2 ⟨r - (p + 1), ?_⟩, rfl⟩
      rw [List.getElem?_drop, ← hy]; congr 1; omega
  have hroom := hI.room
  have hnext := hI.next
  have hsize : ∀ {r : Nat} {y : PStep}, pl[r]? = some y → y.i < ops.size := by
    intro r y hy
    obtain ⟨oy, hoy⟩ := tra_op hT hy
    exact (Array.getElem?_eq_some_iff.1 hoy).1
  have hfr : Post ι H w ι' ⟨T, (C (p + 1)).next⟩ w' := by
    refine Post.frameH hpost hI.post.rel h3 h1 rfl (fun m => m ∈ ((pl.drop (p + 1)).map fun y => base + y.i)) (fun m hm => ?_) (fun m hm => ?_) (fun m hm => ?_)
    · show T.get m = _
      rw [hTr, if_pos hm]
    · show T.get m = _
      rw [hTr, if_neg hm]
    · obtain ⟨r, y, hr1, hy, rfl⟩ := (hM m).1 hm
      exact h2 r y (by omega) hy
  have hnl' : ∀ {r : Nat} {y : PStep}, p + 1 ≤ r → pl[r]? = some y → (Lst (listed.setIfInBounds x.i true) y.i ↔ Lst listed y.i) := by
    intro r y hr1 hy
    obtain ⟨oy, hoy⟩ := tra_op hT hy
    rw [lst_set hsz]
    constructor
    · rintro (h | h)
      · have := uniqi hF hy hx hoy ho h; omega
      · exact h
    · exact .inr
  refine ⟨⟨T, (C (p + 1)).next⟩, ⟨by simp [hI.size], closed_set hI ho hr, hp, .inr ⟨x, o, hx, ho, hc⟩, ?_, ?_, t1, t2, t3, t4, t5, hI.post.trans hfr, hI.low, rfl, ?_, ?_, ?_, ?_, ?_⟩⟩
  · intro r y oy hy hoy hcy
    rw [lst_set hsz]
    constructor
    · rintro (h | h)
      · have := uniqi hF hy hx hoy ho h; omega
      · have := (hI.ch r y oy hy hoy hcy).1 h; omega
    · intro hlt'
      by_cases e : r = p
      · subst e
        rw [hx] at hy; cases hy
        exact .inl rfl
      · exact .inr ((hF.two r p y x oy o (by omega) hy hx hoy ho).chain hcy hc _ hI.closed o ho hr)
  · intro r y oy hy hoy hcy hlt'
    rw [lst_set hsz]
    by_cases e : r = p
    · subst e
      rw [hx] at hy; cases hy
      rw [ho] at hoy; cases hoy
      rw [hcy] at hc; cases hc
    · exact .inr ((hF.two r p y x oy o (by omega) hy hx hoy ho).made hcy (.inr hc) _ hI.closed o ho hr)
  · have := hpost.next
    omega
  · intro r y hy hl
    have hun := hI.un r y hy fun h => hl ((lst_set hsz).2 (.inr h))
    cases hg : ι' (base + y.i) with
    | none => rfl
    | some ni =>
      rcases hpost.newn _ _ hg with h | h
      · rw [hun] at h; cases h
      · have := hsize hy; omega
  · intro r y oy hr1 hy hoy
    show T.get _ = _
    rw [hTr, if_pos ((hM _).2 ⟨r, y, hr1, hy, rfl⟩), hI.g1 r y oy (by omega) hy hoy]
    by_cases hl : Lst listed y.i
    · rw [if_pos hl, if_pos ((hnl' hr1 hy).2 hl)]
    · rw [if_neg hl, if_neg (fun h => hl ((hnl' hr1 hy).1 h))]
  · intro m hm
    show T.get _ = _
    rw [hTr, if_neg]
    intro h
    obtain ⟨r, y, hr1, hy, e⟩ := (hM m).1 h
    exact hm r y hr1 hy e
  · intro r y hr1 hy
    cases hg : (C (p + 1)).heap.get (base + y.i) with
    | none => rfl
    | some ob =>
      rcases hpost.live _ _ hg with ⟨ob', h⟩ | h
      · rw [h2 r y (by omega) hy] at h; cases h
      · have := hsize hy; omega

end
end Go.Sh
