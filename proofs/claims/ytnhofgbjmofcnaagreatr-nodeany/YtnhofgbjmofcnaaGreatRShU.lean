/-
  A shadow interpreter for the model's operations: a region as a whole. (No program in it.)
-/
import Derived.Test.YtnhofgbjmofcnaaGreatRShT
namespace Go.Sh
open Go

variable [Sg : Sig]

section
variable {E : Env} {P : Program} {ops : Array Oper} {pl : List PStep} {A : Nat → AA} {C : Nat → St} {callK : CallK} {base : Nat}
variable {ι0 ι ι' : Inj} {s0 H H' : St} {w0 w w' : World} {listed : Array Bool} {ac : Act} {q : Nat} {aE aE' : AA} {Q : Exit → Act → World → Prop}

omit Sg in
theorem againOk_mem {a : AA} {s : St} : ∀ {l : List Nat}, againOk E ops.toList a s l = true → ∀ {r : Nat} {o : Oper}, r ∈ l → ops[r]? = some o → wantedA ops.toList o a = true →
    ∃ v d, aread E a.eval o s = some v ∧ o.dst = some d ∧ v = a.look d
  | [], _, r, o, hr, _, _ => by cases hr
  | k :: rest, h, r, o, hr, ho, hw => by
    simp only [againOk, Bool.and_eq_true] at h
    rcases List.mem_cons.1 hr with rfl | hr
    · have h1 := h.1
      have ho' : ops.toList[r]? = some o := by simpa using ho
      rw [ho'] at h1
      simp only [hw, cond_true] at h1
      cases hv : aread E a.eval o s with
      | none => rw [hv] at h1; cases hd : o.dst <;> rw [hd] at h1 <;> cases h1
      | some v =>
        rw [hv] at h1
        cases hd : o.dst with
        | none => rw [hd] at h1; cases h1
        | some d => rw [hd] at h1; exact ⟨v, d, rfl, rfl, sameV_eq h1⟩
    · exact againOk_mem h.2 hr ho hw

theorem region_step (hE : E.Ok P) (hcall : CallsOk P callK) (hen : ∀ g args s r, callK g args s = some r → ∀ as w, (callFunc g as).run P w = .ok (.enter g as) w)
    (hT : Tra E callK ops.toList base pl A C) (hF : PlanFacts E ops pl) (hI : Stands E ops pl A C base ι0 s0 w0 listed ac w q ι aE H) {i : Nat} (hi : i ∈ Region.ready .any ops listed) {K : Act → World → Prop}
    (hK : ∀ ac' w', (∃ q' ι' aE' H', Stands E ops pl A C base ι0 s0 w0 (listed.setIfInBounds i true) ac' w' q' ι' aE' H') → K ac' w') : wpOp P ops Q i K ac w := by
  rw [mem_ready] at hi
  obtain ⟨h0, o, ho, hr⟩ := hi
  have hnl : ¬ Lst listed i := by
    intro h
    unfold Lst at h
    by_cases hlt : i < listed.size
    · simp [hlt] at h h0
      rw [h] at h0; cases h0
    · simp [Array.getElem?_eq_none (Nat.le_of_not_lt hlt)] at h0
  obtain ⟨p, x, hx, rfl⟩ := hF.all i (Array.getElem?_eq_some_iff.1 ho).1
  have hp : p < pl.length := (List.getElem?_eq_some_iff.1 hx).1
  have hsee := sees hT hF hI hx ho hnl hr
  have hn : aE.n = (A p).n := hI.an.trans (tra_n hT hF p (by omega)).1.symm
  have hw : wantedA ops.toList o aE = wantedA ops.toList o (A p) := wanted_same hn hsee
  have hev := eval_same hsee
  have hρ := hI.ar.eval
  obtain ⟨v, hput, hc⟩ := tra_at hT hF hx ho
  obtain ⟨aE', haE⟩ := put_of_n hput hn
  have hqp : isCh (cls E o.op) = true → q ≤ p := by
    intro hcc
    rcases Nat.lt_or_ge p q with h | h
    · exact absurd ((hI.ch p x o hx ho hcc).2 h) hnl
    · exact h
  have hwant : wantedA ops.toList o aE = Region.wanted o (yielded ops ac.tmps) := wantedA_eq hI.ar ops o
  unfold wpOp
  simp only [ho]
  rcases hc with ⟨hw0, rfl, hC⟩ | ⟨hw1, hc⟩
  · rw [if_neg (by rw [← hwant, hw, hw0]; simp)]
    cases hcc : isCh (cls E o.op) with
    | false =>
      refine hK _ _ ⟨q, ι, aE', H, stands_still hT hF hI hx ho hnl hr hcc ?_ hput haE (undef_VR ι)⟩
      unfold made
      rw [if_neg (by simp [hw0])]
    | true =>
      obtain ⟨_, _, _, hsr⟩ := at_chain hT hF hI hx ho hr (.inr hcc) (hqp hcc)
      obtain ⟨H', hst⟩ := stands_chain hT hF hI hx ho hr hcc (hqp hcc) hput haE (undef_VR ι) (by rw [hC]; exact Post.refl hsr)
      exact hK _ _ ⟨_, _, _, H', hst⟩
  · rw [if_pos (by rw [← hwant, hw, hw1])]
    refine .inl ?_
    rcases hc with ⟨hcl, hv, _⟩ | ⟨hcl, hv, _⟩ | ⟨hcl, ob, f, ha, rfl, _⟩ | ⟨hcl, hv⟩ | ⟨hcl, c, g, args, hoc, hcal, hv⟩
    · have hv' : apure E aE.eval o = some v := by rw [apure_congr hev]; exact hv
      obtain ⟨v', g1, g2⟩ := apure_meets hE hρ hcl hv' w
      unfold Oper.wp
      rw [g1, Oper.upon_value]
      exact hK _ _ ⟨q, ι, aE', H, stands_still hT hF hI hx ho hnl hr (by rw [hcl]; rfl) (by unfold made; rw [if_neg (by simp [hcl])]) hput haE g2⟩
    · have hgo : ∃ X, SR ι X w ∧ aread E aE.eval o X = some v := by
        by_cases hq : q ≤ p
        · obtain ⟨_, _, _, hsr⟩ := at_chain hT hF hI hx ho hr (.inl hcl) hq
          exact ⟨C p, hsr, by rw [aread_congr hev]; exact hv⟩
        · have hlt : p < q := Nat.lt_of_not_le hq
          rcases hI.qc with h | ⟨y, oy, hy, hoy, hcy⟩
          · omega
          · have hpq : p ≠ q - 1 := by
              intro e
              rw [← e, hx] at hy; cases hy
              rw [ho] at hoy; cases hoy
              rw [hcl] at hcy; cases hcy
            have hyl : Lst listed y.i := (hI.ch _ y oy hy hoy hcy).2 (by omega)
            have hag : x.i ∈ y.again := by
              rcases (hF.two p (q - 1) x y o oy (by omega) hx hy ho hoy).again hcl hcy with hb | h
              · exact absurd (hb _ hI.closed oy hoy (lst_edges hI hoy hyl)) hnl
              · exact h
            obtain ⟨oy', _, _, hok⟩ := hT.step _ y hy
            have hq1 : q - 1 + 1 = q := by omega
            rw [hq1] at hok
            have hqle := hI.qle
            have hlook : ∀ t ∈ o.looksAt ops, (A q).look t = (A p).look t := by
              intro t ht
              refine tra_look hT hF q (by omega) hqle fun r z oz h1 h2 hz hoz hd => ?_
              by_cases e : r = p
              · subst e
                rw [hx] at hz; cases hz
                rw [ho] at hoz; cases hoz
                exact (hF.one r x o hx ho).2 hcl t hd ht
              · exact ((hF.two p r x z o oz (by omega) hx hz ho hoz).seen t hd ht).2 hcl
            have hnq : (A q).n = (A p).n := (tra_n hT hF q hqle).1.trans (tra_n hT hF p (by omega)).1.symm
            obtain ⟨v1, d, e1, e2, e3⟩ := againOk_mem hok hag ho (by rw [wanted_same hnq hlook]; exact hw1)
            obtain ⟨_, _, _, h5⟩ := AA.look_put hput
            have hvd : (A (p + 1)).look d = v := by rw [h5, if_pos e2]
            have : v1 = v := by
              rw [e3, ← hvd, ← tra_end hT hF hx ho e2 (p := q) (by omega) hqle, tra_end hT hF hx ho e2 (p := p + 1) (by omega) (by omega)]
            subst this
            refine ⟨C q, hI.post.rel.sub (fun m ob hm => ?_) (Nat.le_of_eq hI.next), ?_⟩
            · rw [hI.g2 m]
              · exact hm
              · intro r z hr1 hz e
                subst e
                rw [hI.g3 r z hr1 hz] at hm; cases hm
            · rw [← e1]
              refine aread_congr fun z hz => ?_
              rw [hev z hz]
              exact (eval_same hlook z hz).symm
      obtain ⟨X, hsr, hv'⟩ := hgo
      obtain ⟨v', g1, g2⟩ := aread_meets hE hρ hsr hcl hv'
      unfold Oper.wp
      rw [g1, Oper.upon_value]
      exact hK _ _ ⟨q, ι, aE', H, stands_still hT hF hI hx ho hnl hr (by rw [hcl]; rfl) (by unfold made; rw [if_neg (by simp [hcl])]) hput haE g2⟩
    · have ha' : aalloc E aE.eval o = some (ob, f) := by rw [aalloc_congr hev]; exact ha
      obtain ⟨v', ob', ni, g1, g2, hz, g3⟩ := aalloc_makes (w := w) hE hρ ha'
      obtain ⟨g4, g5⟩ := g3 (base + x.i) (hI.un p x hx hnl)
      unfold Oper.wp
      rw [g1, Oper.upon_value]
      refine hK _ _ ⟨q, _, aE', _, stands_alloc hT hF hI hx ho hnl hr hcl ?_ hput haE hz g2 g4 g5⟩
      unfold made
      rw [if_pos ⟨hcl, hw1⟩, ha]; rfl
    · have hcc : isCh (cls E o.op) = true := by rw [hcl]; rfl
      obtain ⟨_, _, _, hsr⟩ := at_chain hT hF hI hx ho hr (.inr hcc) (hqp hcc)
      refine step_wp hE hρ hsr (.inr (.inr (.inl (by rw [achain_congr hev]; exact hv)))) fun ι' v' w' hvr hpo => ?_
      obtain ⟨H', hst⟩ := stands_chain hT hF hI hx ho hr hcc (hqp hcc) hput haE hvr hpo
      exact hK _ _ ⟨_, _, _, H', hst⟩
    · have hcc : isCh (cls E o.op) = true := by rw [hcl]; rfl
      obtain ⟨_, _, _, hsr⟩ := at_chain hT hF hI hx ho hr (.inr hcc) (hqp hcc)
      have hcal' : callee aE.eval c = some (g, args) := by
        rw [← hcal]
        exact callee_congr fun z hz => hev z (by rw [hoc]; exact hz)
      refine call_wp hE hρ hsr hoc hcall hcal' hv (hen g args _ _ hv) fun ι' v' w' hvr hpo => ?_
      obtain ⟨H', hst⟩ := stands_chain hT hF hI hx ho hr hcc (hqp hcc) hput haE hvr hpo
      exact hK _ _ ⟨_, _, _, H', hst⟩

omit Sg in
/-- Nothing is ready: all is done. -/
theorem ready_nil (hF : PlanFacts E ops pl) (hsz : listed.size = ops.size) (h : Region.ready .any ops listed = []) : ∀ i, i < ops.size → Lst listed i := by
  intro i
  induction i using Nat.strongRecOn with
  | ind i ih =>
    intro hi
    cases hl : listed.getD i false with
    | true => exact hl
    | false =>
      exfalso
      have : i ∈ Region.ready .any ops listed := by
        rw [mem_ready]
        refine ⟨?_, ops[i], by simp [hi], fun e he hb => ?_⟩
        · have : i < listed.size := by omega
          simp [this] at hl ⊢
          exact hl
        · exact ih e.on (hF.down i ops[i] (by simp [hi]) e he hb) (by have := hF.down i ops[i] (by simp [hi]) e he hb; omega)
      rw [h] at this; cases this

theorem region_end (hT : Tra E callK ops.toList base pl A C) (hF : PlanFacts E ops pl) (hI : Stands E ops pl A C base ι0 s0 w0 listed ac w q ι aE H) (hall : ∀ i, i < ops.size → Lst listed i) :
    AR ι (A pl.length) ac ∧ Post ι0 s0 w0 ι (C pl.length) w := by
  have hsize : ∀ {r : Nat} {y : PStep}, pl[r]? = some y → y.i < ops.size := by
    intro r y hy
    obtain ⟨oy, hoy⟩ := tra_op hT hy
    exact (Array.getElem?_eq_some_iff.1 hoy).1
  have hlook : ∀ t, aE.look t = (A pl.length).look t := by
    intro t
    by_cases h : ∃ (r : Nat) (y : PStep) (oy : Oper), pl[r]? = some y ∧ ops[y.i]? = some oy ∧ oy.dst = some t
    · obtain ⟨r, y, oy, hy, hoy, hd⟩ := h
      exact hI.tl r y oy t hy hoy hd (hall _ (hsize hy))
    · rw [hI.tu t fun r y oy hy hoy _ hd => h ⟨r, y, oy, hy, hoy, hd⟩]
      exact (tra_look hT hF pl.length (Nat.zero_le _) (Nat.le_refl _) fun r y oy _ _ hy hoy hd => h ⟨r, y, oy, hy, hoy, hd⟩).symm
  obtain ⟨h1, h2⟩ := tra_n hT hF pl.length (Nat.le_refl _)
  refine ⟨⟨?_, fun t => by rw [← hlook]; exact hI.ar.tm t, ?_⟩, ?_⟩
  · rw [h1, ← hI.an]; exact hI.ar.size
  · rw [h2, ← hI.ad]; exact hI.ar.df
  · obtain ⟨g1, g2, g3⟩ := inv_at hT hF hI hI.qle (Nat.le_refl _)
      (fun r y oy hr1 hr2 hy hoy => by
        cases hcy : isCh (cls E oy.op) with
        | false => rfl
        | true =>
          have := (hI.ch r y oy hy hoy hcy).1 (hall _ (hsize hy))
          omega)
      (fun r y oy hr2 hy hoy hcy => hall _ (hsize hy))
    refine hI.post.same (fun m => g3 m fun r y hr1 hy => ?_) g1
    have := (List.getElem?_eq_some_iff.1 hy).1
    omega

theorem region_any (hE : E.Ok P) (hcall : CallsOk P callK) (hen : ∀ g args s r, callK g args s = some r → ∀ as w, (callFunc g as).run P w = .ok (.enter g as) w)
    (hT : Tra E callK ops.toList base pl A C) (hF : PlanFacts E ops pl) (hQ : ∀ ι' ac' w', AR ι' (A pl.length) ac' → Post ι0 s0 w0 ι' (C pl.length) w' → Q .normal ac' w') :
    ∀ (fuel : Nat) (listed : Array Bool) (ac : Act) (w : World), (listed.toList.filter (fun b => !b)).length ≤ fuel → (∃ q ι aE H, Stands E ops pl A C base ι0 s0 w0 listed ac w q ι aE H) → wpAny P .any ops Q fuel listed ac w := by
  have done : ∀ {listed : Array Bool} {ac : Act} {w : World}, Region.ready .any ops listed = [] → (∃ q ι aE H, Stands E ops pl A C base ι0 s0 w0 listed ac w q ι aE H) → Q .normal ac w := by
    rintro listed ac w hnil ⟨q, ι, aE, H, hI⟩
    obtain ⟨h1, h2⟩ := region_end hT hF hI (ready_nil hF hI.size hnil)
    exact hQ ι ac w h1 h2
  intro fuel
  induction fuel with
  | zero =>
    intro listed ac w hf hI
    have hnil : Region.ready .any ops listed = [] := by
      apply List.eq_nil_iff_forall_not_mem.2
      intro i hi
      rw [mem_ready] at hi
      obtain ⟨h0, o, ho, _⟩ := hi
      obtain ⟨q, ι, aE, H, hI⟩ := hI
      have hlt : i < listed.size := by rw [hI.size]; exact (Array.getElem?_eq_some_iff.1 ho).1
      have : false ∈ listed.toList.filter (fun b => !b) := by
        refine List.mem_filter.2 ⟨?_, rfl⟩
        simp [hlt] at h0
        rw [← h0]
        simp
      rw [List.length_eq_zero_iff.1 (Nat.le_zero.1 hf)] at this
      cases this
    exact ⟨hnil, done hnil hI⟩
  | succ fuel ih =>
    intro listed ac w hf hI
    refine ⟨fun hnil => done hnil hI, fun i hi => ?_⟩
    obtain ⟨q, ι, aE, H, hI⟩ := hI
    have hi' := hi
    refine region_step hE hcall hen hT hF hI hi fun ac' w' h => ih _ _ _ ?_ h
    rw [mem_ready] at hi'
    obtain ⟨h0, o, ho, _⟩ := hi'
    have hlt : i < listed.size := by rw [hI.size]; exact (Array.getElem?_eq_some_iff.1 ho).1
    have key : ∀ (l : List Bool) (i : Nat), l[i]? = some false → ((l.set i true).filter (fun b => !b)).length + 1 = (l.filter (fun b => !b)).length := by
      intro l
      induction l with
      | nil => intro i h; simp at h
      | cons b l ih =>
        intro i h
        cases i with
        | zero => simp at h; subst h; simp
        | succ i =>
          simp at h
          have := ih i h
          cases b <;> simp <;> omega
    have h1 : listed.toList[i]? = some false := by
      simp [hlt] at h0
      simp [hlt, h0]
    have := key listed.toList i h1
    have e : (listed.setIfInBounds i true).toList = listed.toList.set i true := by simp
    rw [e]
    omega

/-- A region, in any order. -/
theorem region_ok (hE : E.Ok P) (hcall : CallsOk P callK) (hen : ∀ g args s r, callK g args s = some r → ∀ as w, (callFunc g as).run P w = .ok (.enter g as) w)
    (hF : PlanFacts E ops pl) {a a' : AA} {s s' : St} (hr : runPlan E callK ops.toList s.next pl a { s with next := s.next + ops.toList.length } = some (a', s')) {id : Nat} (har : AR ι a ac) (hs : SR ι s w)
    (hQ : ∀ ι' ac' w', AR ι' a' ac' → Post ι s w ι' s' w' → Q .normal ac' w') : (Code.region id ops true).wp P Q ac w := by
  obtain ⟨A, C, h1, h2, h3, h4, hT⟩ := runPlan_tra hr
  refine wp_region_any hE.mixed (region_any hE hcall hen hT hF (by rw [h3, h4]; exact hQ) ops.size _ _ _ ?_ ⟨0, ι, a, { s with next := s.next + ops.toList.length }, ?_⟩)
  · simp
  · have hno : ∀ i, ¬ Lst (Array.replicate ops.size false) i := by
      intro i h
      unfold Lst at h
      by_cases hlt : i < ops.size <;> simp [hlt] at h
    have hsize : ∀ {r : Nat} {y : PStep}, pl[r]? = some y → y.i < ops.size := by
      intro r y hy
      obtain ⟨oy, hoy⟩ := tra_op hT hy
      exact (Array.getElem?_eq_some_iff.1 hoy).1
    have hι : ∀ m, s.next ≤ m → ι m = none := by
      intro m hm
      cases hg : ι m with
      | none => rfl
      | some ni => have := hs.fresh m ni hg; omega
    have hheap : ∀ m, s.next ≤ m → s.heap.get m = none := by
      intro m hm
      cases hg : s.heap.get m with
      | none => rfl
      | some ob => obtain ⟨ni, h, _⟩ := hs.obj m ob hg; rw [hι m hm] at h; cases h
    refine ⟨by simp, fun i o h => absurd h (hno i), Nat.zero_le _, .inl rfl, fun r x o _ _ _ => ⟨fun h => absurd h (hno _), fun h => by omega⟩, fun r x o _ _ _ h => by omega, har, by rw [h1], by rw [h1],
      fun r x o t _ _ _ h => absurd h (hno _), fun t _ => by rw [h1], Post.room hs _ rfl ⟨rfl, rfl, rfl, fun _ => rfl⟩, Nat.le_refl _, by rw [h2], by rw [h2]; simp, fun r x hx _ => hι _ (Nat.le_add_right _ _),
      fun r x o _ hx _ => ?_, fun m _ => by rw [h2], fun r x _ hx => ?_⟩
    · rw [if_neg (hno _)]
      exact hheap _ (Nat.le_add_right _ _)
    · rw [h2]
      exact hheap _ (Nat.le_add_right _ _)

end
end Go.Sh
