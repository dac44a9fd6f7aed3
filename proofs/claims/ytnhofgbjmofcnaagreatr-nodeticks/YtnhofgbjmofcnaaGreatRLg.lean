/-
  A shadow interpreter for the model's operations: a region as a whole. (No program in it.) A shadow interpreter for the model's operations: plans looked over. (No program in it.) A shadow interpreter for the model's operations: the runs. (No program in it.) A shadow interpreter for the model's operations: calls. (No program in it.) A shadow interpreter for the model's operations: environments out of lists. (No program in it.) A shadow interpreter for the model's operations: a run from nothing, as a contract. (No program in it.)
-/
import Derived.Test.YtnhofgbjmofcnaaGreatRLf
import Derived.LoopN
import Derived.Tactics
import Derived.KernelRfl

namespace Go.Sh
open Go

variable [Sg : Sig]

section
variable {E : Env} {P : Program} {ops : Array Oper} {pl : List PStep} {A : Nat → AA} {C : Nat → St} {callK : CallK} {base : Nat}
variable {ι0 ι ι' : Inj} {s0 H H' : St} {w0 w w' : World} {listed : Array Bool} {ac : Act} {q : Nat} {aE aE' : AA} {Q : Exit → Act → World → Prop}

omit Sg in
theorem againOk_mem {a : AA} {s : St} : ∀ {l : List Nat}, againOk E ops.toList a s l = true → ∀ {r : Nat} {o : Oper}, r ∈ l → ops[r]? = some o → wantedA ops.toList o a = true →
    ∃ v d, aread E a.eval o s = some v ∧ o.dst = some d ∧ v = a.look d
  | [], _, r, o, hr, _, _ => by cases hr
  | k :: rest, h, r, o, hr, ho, hw => by
    simp only [againOk, Bool.and_eq_true] at h
    rcases List.mem_cons.1 hr with rfl | hr
    · have h1 := h.1
      have ho' : ops.toList[r]? = some o := by simpa using ho
      rw [ho'] at h1
      simp only [hw, cond_true] at h1
      cases hv : aread E a.eval o s with
      | none => rw [hv] at h1; cases hd : o.dst <;> rw [hd] at h1 <;> cases h1
      | some v =>
        rw [hv] at h1
        cases hd : o.dst with
        | none => rw [hd] at h1; cases h1
        | some d => rw [hd] at h1; exact ⟨v, d, rfl, rfl, sameV_eq h1⟩
    · exact againOk_mem h.2 hr ho hw

theorem region_step (hE : E.Ok P) (hcall : CallsOk P callK)
    (hT : Tra E callK ops.toList base pl A C) (hF : PlanFacts E ops pl) (hI : Stands E ops pl A C base ι0 s0 w0 listed ac w q ι aE H) {i : Nat} (hi : i ∈ Region.ready .any ops listed) {K : Act → World → Prop}
    (hK : ∀ ac' w', (∃ q' ι' aE' H', Stands E ops pl A C base ι0 s0 w0 (listed.setIfInBounds i true) ac' w' q' ι' aE' H') → K ac' w') : wpOp P ops Q i K ac w := by
  rw [mem_ready] at hi
  obtain ⟨h0, o, ho, hr⟩ := hi
  have hnl : ¬ Lst listed i := by
    intro h
    unfold Lst at h
    by_cases hlt : i < listed.size
    · simp [hlt] at h h0
      rw [h] at h0; cases h0
    · simp [Array.getElem?_eq_none (Nat.le_of_not_lt hlt)] at h0
  obtain ⟨p, x, hx, rfl⟩ := hF.all i (Array.getElem?_eq_some_iff.1 ho).1
  have hp : p < pl.length := (List.getElem?_eq_some_iff.1 hx).1
  have hsee := sees hT hF hI hx ho hnl hr
  have hn : aE.n = (A p).n := hI.an.trans (tra_n hT hF p (by omega)).1.symm
  have hw : wantedA ops.toList o aE = wantedA ops.toList o (A p) := wanted_same hn hsee
  have hev := eval_same hsee
  have hρ := hI.ar.eval
  obtain ⟨v, hput, hc⟩ := tra_at hT hF hx ho
  obtain ⟨aE', haE⟩ := put_of_n hput hn
  have hqp : isCh (cls E o.op) = true → q ≤ p := by
    intro hcc
    rcases Nat.lt_or_ge p q with h | h
    · exact absurd ((hI.ch p x o hx ho hcc).2 h) hnl
    · exact h
  have hwant : wantedA ops.toList o aE = Region.wanted o (yielded ops ac.tmps) := wantedA_eq hI.ar ops o
  unfold wpOp
  simp only [ho]
  rcases hc with ⟨hw0, rfl, hC⟩ | ⟨hw1, hc⟩
  · rw [if_neg (by rw [← hwant, hw, hw0]; simp)]
    cases hcc : isCh (cls E o.op) with
    | false =>
      refine hK _ _ ⟨q, ι, aE', H, stands_still hT hF hI hx ho hnl hr hcc ?_ hput haE (undef_VR ι)⟩
      unfold made
      rw [if_neg (by simp [hw0])]
    | true =>
      obtain ⟨_, _, _, hsr⟩ := at_chain hT hF hI hx ho hr (.inr hcc) (hqp hcc)
      obtain ⟨H', hst⟩ := stands_chain hT hF hI hx ho hr hcc (hqp hcc) hput haE (undef_VR ι) (by rw [hC]; exact Post.refl hsr)
      exact hK _ _ ⟨_, _, _, H', hst⟩
  · rw [if_pos (by rw [← hwant, hw, hw1])]
    refine .inl ?_
    rcases hc with ⟨hcl, hv, _⟩ | ⟨hcl, hv, _⟩ | ⟨hcl, ob, f, ha, rfl, _⟩ | ⟨hcl, hv⟩ | ⟨hcl, c, g, args, hoc, hcal, hv⟩
    · have hv' : apure E aE.eval o = some v := by rw [apure_congr hev]; exact hv
      obtain ⟨v', g1, g2⟩ := apure_meets hE hρ hcl hv' w
      unfold Oper.wp
      rw [g1, Oper.upon_value]
      exact hK _ _ ⟨q, ι, aE', H, stands_still hT hF hI hx ho hnl hr (by rw [hcl]; rfl) (by unfold made; rw [if_neg (by simp [hcl])]) hput haE g2⟩
    · have hgo : ∃ X, SR ι X w ∧ aread E aE.eval o X = some v := by
        by_cases hq : q ≤ p
        · obtain ⟨_, _, _, hsr⟩ := at_chain hT hF hI hx ho hr (.inl hcl) hq
          exact ⟨C p, hsr, by rw [aread_congr hev]; exact hv⟩
        · have hlt : p < q := Nat.lt_of_not_le hq
          rcases hI.qc with h | ⟨y, oy, hy, hoy, hcy⟩
          · omega
          · have hpq : p ≠ q - 1 := by
              intro e
              rw [← e, hx] at hy; cases hy
              rw [ho] at hoy; cases hoy
              rw [hcl] at hcy; cases hcy
            have hyl : Lst listed y.i := (hI.ch _ y oy hy hoy hcy).2 (by omega)
            have hag : x.i ∈ y.again := by
              rcases (hF.two p (q - 1) x y o oy (by omega) hx hy ho hoy).again hcl hcy with hb | h
              · exact absurd (hb _ hI.closed oy hoy (lst_edges hI hoy hyl)) hnl
              · exact h
            obtain ⟨oy', _, _, hok⟩ := hT.step _ y hy
            have hq1 : q - 1 + 1 = q := by omega
            rw [hq1] at hok
            have hqle := hI.qle
            have hlook : ∀ t ∈ o.looksAt ops, (A q).look t = (A p).look t := by
              intro t ht
              refine tra_look hT hF q (by omega) hqle fun r z oz h1 h2 hz hoz hd => ?_
              by_cases e : r = p
              · subst e
                rw [hx] at hz; cases hz
                rw [ho] at hoz; cases hoz
                exact (hF.one r x o hx ho).2 hcl t hd ht
              · exact ((hF.two p r x z o oz (by omega) hx hz ho hoz).seen t hd ht).2 hcl
            have hnq : (A q).n = (A p).n := (tra_n hT hF q hqle).1.trans (tra_n hT hF p (by omega)).1.symm
            obtain ⟨v1, d, e1, e2, e3⟩ := againOk_mem hok hag ho (by rw [wanted_same hnq hlook]; exact hw1)
            obtain ⟨_, _, _, h5⟩ := AA.look_put hput
            have hvd : (A (p + 1)).look d = v := by rw [h5, if_pos e2]
            have : v1 = v := by
              rw [e3, ← hvd, ← tra_end hT hF hx ho e2 (p := q) (by omega) hqle, tra_end hT hF hx ho e2 (p := p + 1) (by omega) (by omega)]
            subst this
            refine ⟨C q, hI.post.rel.sub (fun m ob hm => ?_) (Nat.le_of_eq hI.next), ?_⟩
            · rw [hI.g2 m]
              · exact hm
              · intro r z hr1 hz e
                subst e
                rw [hI.g3 r z hr1 hz] at hm; cases hm
            · rw [← e1]
              refine aread_congr fun z hz => ?_
              rw [hev z hz]
              exact (eval_same hlook z hz).symm
      obtain ⟨X, hsr, hv'⟩ := hgo
      obtain ⟨v', g1, g2⟩ := aread_meets hE hρ hsr hcl hv'
      unfold Oper.wp
      rw [g1, Oper.upon_value]
      exact hK _ _ ⟨q, ι, aE', H, stands_still hT hF hI hx ho hnl hr (by rw [hcl]; rfl) (by unfold made; rw [if_neg (by simp [hcl])]) hput haE g2⟩
    · have ha' : aalloc E aE.eval o = some (ob, f) := by rw [aalloc_congr hev]; exact ha
      obtain ⟨v', ob', ni, g1, g2, hz, g3⟩ := aalloc_makes (w := w) hE hρ ha'
      obtain ⟨g4, g5⟩ := g3 (base + x.i) (hI.un p x hx hnl)
      unfold Oper.wp
      rw [g1, Oper.upon_value]
      refine hK _ _ ⟨q, _, aE', _, stands_alloc hT hF hI hx ho hnl hr hcl ?_ hput haE hz g2 g4 g5⟩
      unfold made
      rw [if_pos ⟨hcl, hw1⟩, ha]; rfl
    · have hcc : isCh (cls E o.op) = true := by rw [hcl]; rfl
      obtain ⟨_, _, _, hsr⟩ := at_chain hT hF hI hx ho hr (.inr hcc) (hqp hcc)
      refine step_wp hE hρ hsr (.inr (.inr (.inl (by rw [achain_congr hev]; exact hv)))) fun ι' v' w' hvr hpo => ?_
      obtain ⟨H', hst⟩ := stands_chain hT hF hI hx ho hr hcc (hqp hcc) hput haE hvr hpo
      exact hK _ _ ⟨_, _, _, H', hst⟩
    · have hcc : isCh (cls E o.op) = true := by rw [hcl]; rfl
      obtain ⟨_, _, _, hsr⟩ := at_chain hT hF hI hx ho hr (.inr hcc) (hqp hcc)
      have hcal' : callee aE.eval c = some (g, args) := by
        rw [← hcal]
        exact callee_congr fun z hz => hev z (by rw [hoc]; exact hz)
      refine call_wp hE hρ hsr hoc hcall hcal' hv fun ι' v' w' hvr hpo => ?_
      obtain ⟨H', hst⟩ := stands_chain hT hF hI hx ho hr hcc (hqp hcc) hput haE hvr hpo
      exact hK _ _ ⟨_, _, _, H', hst⟩

omit Sg in
/-- Nothing is ready: all is done. -/
theorem ready_nil (hF : PlanFacts E ops pl) (hsz : listed.size = ops.size) (h : Region.ready .any ops listed = []) : ∀ i, i < ops.size → Lst listed i := by
  intro i
  induction i using Nat.strongRecOn with
  | ind i ih =>
    intro hi
    cases hl : listed.getD i false with
    | true => exact hl
    | false =>
      exfalso
      have : i ∈ Region.ready .any ops listed := by
        rw [mem_ready]
        refine ⟨?_, ops[i], by simp [hi], fun e he hb => ?_⟩
        · have : i < listed.size := by omega
          simp [this] at hl ⊢
          exact hl
        · exact ih e.on (hF.down i ops[i] (by simp [hi]) e he hb) (by have := hF.down i ops[i] (by simp [hi]) e he hb; omega)
      rw [h] at this; cases this

theorem region_end (hT : Tra E callK ops.toList base pl A C) (hF : PlanFacts E ops pl) (hI : Stands E ops pl A C base ι0 s0 w0 listed ac w q ι aE H) (hall : ∀ i, i < ops.size → Lst listed i) :
    AR ι (A pl.length) ac ∧ Post ι0 s0 w0 ι (C pl.length) w := by
  have hsize : ∀ {r : Nat} {y : PStep}, pl[r]? = some y → y.i < ops.size := by
    intro r y hy
    obtain ⟨oy, hoy⟩ := tra_op hT hy
    exact (Array.getElem?_eq_some_iff.1 hoy).1
  have hlook : ∀ t, aE.look t = (A pl.length).look t := by
    intro t
    by_cases h : ∃ (r : Nat) (y : PStep) (oy : Oper), pl[r]? = some y ∧ ops[y.i]? = some oy ∧ oy.dst = some t
    · obtain ⟨r, y, oy, hy, hoy, hd⟩ := h
      exact hI.tl r y oy t hy hoy hd (hall _ (hsize hy))
    · rw [hI.tu t fun r y oy hy hoy _ hd => h ⟨r, y, oy, hy, hoy, hd⟩]
      exact (tra_look hT hF pl.length (Nat.zero_le _) (Nat.le_refl _) fun r y oy _ _ hy hoy hd => h ⟨r, y, oy, hy, hoy, hd⟩).symm
  obtain ⟨h1, h2⟩ := tra_n hT hF pl.length (Nat.le_refl _)
  refine ⟨⟨?_, fun t => by rw [← hlook]; exact hI.ar.tm t, ?_⟩, ?_⟩
  · rw [h1, ← hI.an]; exact hI.ar.size
  · rw [h2, ← hI.ad]; exact hI.ar.df
  · obtain ⟨g1, g2, g3⟩ := inv_at hT hF hI hI.qle (Nat.le_refl _)
      (fun r y oy hr1 hr2 hy hoy => by
        cases hcy : isCh (cls E oy.op) with
        | false => rfl
        | true =>
          have := (hI.ch r y oy hy hoy hcy).1 (hall _ (hsize hy))
          omega)
      (fun r y oy hr2 hy hoy hcy => hall _ (hsize hy))
    refine hI.post.same (fun m => g3 m fun r y hr1 hy => ?_) g1
    have := (List.getElem?_eq_some_iff.1 hy).1
    omega

theorem region_any (hE : E.Ok P) (hcall : CallsOk P callK)
    (hT : Tra E callK ops.toList base pl A C) (hF : PlanFacts E ops pl) (hQ : ∀ ι' ac' w', AR ι' (A pl.length) ac' → Post ι0 s0 w0 ι' (C pl.length) w' → Q .normal ac' w') :
    ∀ (fuel : Nat) (listed : Array Bool) (ac : Act) (w : World), (listed.toList.filter (fun b => !b)).length ≤ fuel → (∃ q ι aE H, Stands E ops pl A C base ι0 s0 w0 listed ac w q ι aE H) → wpAny P .any ops Q fuel listed ac w := by
  have done : ∀ {listed : Array Bool} {ac : Act} {w : World}, Region.ready .any ops listed = [] → (∃ q ι aE H, Stands E ops pl A C base ι0 s0 w0 listed ac w q ι aE H) → Q .normal ac w := by
    rintro listed ac w hnil ⟨q, ι, aE, H, hI⟩
    obtain ⟨h1, h2⟩ := region_end hT hF hI (ready_nil hF hI.size hnil)
    exact hQ ι ac w h1 h2
  intro fuel
  induction fuel with
  | zero =>
    intro listed ac w hf hI
    have hnil : Region.ready .any ops listed = [] := by
      apply List.eq_nil_iff_forall_not_mem.2
      intro i hi
      rw [mem_ready] at hi
      obtain ⟨h0, o, ho, _⟩ := hi
      obtain ⟨q, ι, aE, H, hI⟩ := hI
      have hlt : i < listed.size := by rw [hI.size]; exact (Array.getElem?_eq_some_iff.1 ho).1
      have : false ∈ listed.toList.filter (fun b => !b) := by
        refine List.mem_filter.2 ⟨?_, rfl⟩
        simp [hlt] at h0
        rw [← h0]
        simp
      rw [List.length_eq_zero_iff.1 (Nat.le_zero.1 hf)] at this
      cases this
    exact ⟨hnil, done hnil hI⟩
  | succ fuel ih =>
    intro listed ac w hf hI
    refine ⟨fun hnil => done hnil hI, fun i hi => ?_⟩
    obtain ⟨q, ι, aE, H, hI⟩ := hI
    have hi' := hi
    refine region_step hE hcall hT hF hI hi fun ac' w' h => ih _ _ _ ?_ h
    rw [mem_ready] at hi'
    obtain ⟨h0, o, ho, _⟩ := hi'
    have hlt : i < listed.size := by rw [hI.size]; exact (Array.getElem?_eq_some_iff.1 ho).1
    have key : ∀ (l : List Bool) (i : Nat), l[i]? = some false → ((l.set i true).filter (fun b => !b)).length + 1 = (l.filter (fun b => !b)).length := by
      intro l
      induction l with
      | nil => intro i h; simp at h
      | cons b l ih =>
        intro i h
        cases i with
        | zero => simp at h; subst h; simp
        | succ i =>
          simp at h
          have := ih i h
          cases b <;> simp <;> omega
    have h1 : listed.toList[i]? = some false := by
      simp [hlt] at h0
      simp [hlt, h0]
    have := key listed.toList i h1
    have e : (listed.setIfInBounds i true).toList = listed.toList.set i true := by simp
    rw [e]
    omega

/-- A region, in any order. -/
theorem region_ok (hE : E.Ok P) (hcall : CallsOk P callK)
    (hF : PlanFacts E ops pl) {a a' : AA} {s s' : St} (hr : runPlan E callK ops.toList s.next pl a { s with next := s.next + ops.toList.length } = some (a', s')) {id : Nat} (har : AR ι a ac) (hs : SR ι s w)
    (hQ : ∀ ι' ac' w', AR ι' a' ac' → Post ι s w ι' s' w' → Q .normal ac' w') : (Code.region id ops true).wp P Q ac w := by
  obtain ⟨A, C, h1, h2, h3, h4, hT⟩ := runPlan_tra hr
  refine wp_region_any hE.mixed (region_any hE hcall hT hF (by rw [h3, h4]; exact hQ) ops.size _ _ _ ?_ ⟨0, ι, a, { s with next := s.next + ops.toList.length }, ?_⟩)
  · simp
  · have hno : ∀ i, ¬ Lst (Array.replicate ops.size false) i := by
      intro i h
      unfold Lst at h
      by_cases hlt : i < ops.size <;> simp [hlt] at h
    have hsize : ∀ {r : Nat} {y : PStep}, pl[r]? = some y → y.i < ops.size := by
      intro r y hy
      obtain ⟨oy, hoy⟩ := tra_op hT hy
      exact (Array.getElem?_eq_some_iff.1 hoy).1
    have hι : ∀ m, s.next ≤ m → ι m = none := by
      intro m hm
      cases hg : ι m with
      | none => rfl
      | some ni => have := hs.fresh m ni hg; omega
    have hheap : ∀ m, s.next ≤ m → s.heap.get m = none := by
      intro m hm
      cases hg : s.heap.get m with
      | none => rfl
      | some ob => obtain ⟨ni, h, _⟩ := hs.obj m ob hg; rw [hι m hm] at h; cases h
    refine ⟨by simp, fun i o h => absurd h (hno i), Nat.zero_le _, .inl rfl, fun r x o _ _ _ => ⟨fun h => absurd h (hno _), fun h => by omega⟩, fun r x o _ _ _ h => by omega, har, by rw [h1], by rw [h1],
      fun r x o t _ _ _ h => absurd h (hno _), fun t _ => by rw [h1], Post.room hs _ rfl ⟨rfl, rfl, fun _ => rfl⟩, Nat.le_refl _, by rw [h2], by rw [h2]; simp, fun r x hx _ => hι _ (Nat.le_add_right _ _),
      fun r x o _ hx _ => ?_, fun m _ => by rw [h2], fun r x _ hx => ?_⟩
    · rw [if_neg (hno _)]
      exact hheap _ (Nat.le_add_right _ _)
    · rw [h2]
      exact hheap _ (Nat.le_add_right _ _)

end
end Go.Sh

namespace Go.Sh
open Go

variable [Sg : Sig]

def memN (x : Nat) : List Nat → Bool
  | [] => false
  | y :: ys => cond (Nat.beq x y) true (memN x ys)

omit Sg in
theorem memN_mem {x : Nat} : ∀ {l : List Nat}, memN x l = true ↔ x ∈ l
  | [] => by simp [memN]
  | y :: ys => by
    simp only [memN, List.mem_cons]
    cases h : Nat.beq x y with
    | true => simp [Nat.eq_of_beq_eq_true h]
    | false =>
      have : x ≠ y := by intro e; subst e; simp at h
      simp [this, memN_mem]

def edgesOf (o : Oper) : List Nat := (o.after.toList.filter (Region.binds .any)).map (·.on)

def uniN : List Nat → List Nat → List Nat
  | [], r => r
  | x :: xs, r => cond (memN x r) (uniN xs r) (uniN xs (x :: r))

def befRow (acc : List (List Nat)) : List Nat → List Nat → List Nat
  | [], r => r
  | e :: es, r => befRow acc es (uniN (e :: (acc[e]?).getD []) r)

def befTab : List Oper → List (List Nat) → List (List Nat)
  | [], acc => acc
  | o :: os, acc => befTab os (acc ++ [befRow acc (edgesOf o) []])

def isRd : Cls → Bool
  | .read => true
  | _ => false

def isAl : Cls → Bool
  | .alloc => true
  | _ => false

def isDf : Cls → Bool
  | .dfr => true
  | _ => false

def oneB (E : Env) (ops : Array Oper) (o : Oper) : Bool :=
  !isDf (cls E o.op) && cond (isRd (cls E o.op)) (match o.dst with
    | some t => !memN t (o.looksAt ops)
    | none => true) true

def seeB (o : Option Nat) (l : List Nat) (b : Bool) : Bool := match o with
  | some t => cond (memN t l) b true
  | none => true

def dstB (a b : Option Nat) : Bool := match a, b with
  | some x, some y => !Nat.beq x y
  | _, _ => true

def twoB (E : Env) (ops : Array Oper) (tab : List (List Nat)) (x y : PStep) (ox oy : Oper) : Bool :=
  let b := memN x.i ((tab[y.i]?).getD [])
  let cx := cls E ox.op
  let cy := cls E oy.op
  !Nat.beq x.i y.i && dstB ox.dst oy.dst && seeB ox.dst (oy.looksAt ops) b && seeB oy.dst (ox.looksAt ops) (b && !isRd cx) &&
    cond (isCh cx && isCh cy) b true && cond (isAl cx && (isRd cy || isCh cy)) b true && cond (isCh cx && isRd cy) b true &&
    cond (isRd cx && isCh cy) (b || memN x.i y.again) true

def pairsB {α : Type} (f : α → α → Bool) : List α → Bool
  | [] => true
  | x :: xs => xs.all (f x) && pairsB f xs

def resolveP (ops : List Oper) : List PStep → Option (List (PStep × Oper))
  | [] => some []
  | x :: xs => match ops[x.i]?, resolveP ops xs with
    | some o, some r => some ((x, o) :: r)
    | _, _ => none

def downB : List Oper → Nat → Bool
  | [], _ => true
  | o :: os, k => (edgesOf o).all (fun e => Nat.blt e k) && downB os (k + 1)

def planB (E : Env) (ops : Array Oper) (pl : List PStep) : Bool :=
  match resolveP ops.toList pl with
  | none => false
  | some r =>
    let tab := befTab ops.toList []
    Nat.beq pl.length ops.size && (List.range ops.size).all (fun i => pl.any fun x => Nat.beq x.i i) && r.all (fun y => oneB E ops y.2) &&
      pairsB (fun a b => twoB E ops tab a.1 b.1 a.2 b.2) r && downB ops.toList 0

/-! ### what it shows -/
omit Sg in
theorem mem_edgesOf {o : Oper} {x : Nat} : x ∈ edgesOf o ↔ ∃ e ∈ o.after, Region.binds .any e = true ∧ e.on = x := by
  unfold edgesOf
  simp [List.mem_map, List.mem_filter]
  constructor
  · rintro ⟨e, ⟨h1, h2⟩, h3⟩; exact ⟨e, h1, h2, h3⟩
  · rintro ⟨e, h1, h2, h3⟩; exact ⟨e, ⟨h1, h2⟩, h3⟩

omit Sg in
theorem uniN_mem {x : Nat} : ∀ {l r : List Nat}, x ∈ uniN l r → x ∈ l ∨ x ∈ r
  | [], r, h => .inr h
  | y :: ys, r, h => by
    simp only [uniN] at h
    cases hm : memN y r with
    | true =>
      rw [hm] at h; simp only [cond_true] at h
      rcases uniN_mem h with h | h
      · exact .inl (by simp [h])
      · exact .inr h
    | false =>
      rw [hm] at h; simp only [cond_false] at h
      rcases uniN_mem h with h | h
      · exact .inl (by simp [h])
      · rcases List.mem_cons.1 h with h | h
        · exact .inl (by simp [h])
        · exact .inr h

def TabOk (ops : Array Oper) (acc : List (List Nat)) : Prop := ∀ j row, acc[j]? = some row → j < ops.size ∧ ∀ x ∈ row, Bef ops x j

omit Sg in
theorem befRow_ok {ops : Array Oper} {acc : List (List Nat)} (hacc : TabOk ops acc) {j : Nat} {o : Oper} (ho : ops[j]? = some o) : ∀ {es r : List Nat}, (∀ e ∈ es, e ∈ edgesOf o) → (∀ x ∈ r, Bef ops x j) →
    ∀ x ∈ befRow acc es r, Bef ops x j
  | [], r, _, hr, x, hx => hr x hx
  | e :: es, r, he, hr, x, hx => by
    simp only [befRow] at hx
    have hej : Bef ops e j := by
      intro L hL oj hoj hed
      rw [ho] at hoj; cases hoj
      obtain ⟨ed, h1, h2, h3⟩ := mem_edgesOf.1 (he e (by simp))
      rw [← h3]; exact hed ed h1 h2
    refine befRow_ok hacc ho (fun e' h' => he e' (by simp [h'])) ?_ x hx
    intro y hy
    rcases uniN_mem hy with h | h
    · rcases List.mem_cons.1 h with h | h
      · rw [h]; exact hej
      · cases hrow : acc[e]? with
        | none => rw [hrow] at h; simp at h
        | some row =>
          rw [hrow] at h
          obtain ⟨hlt, hb⟩ := hacc e row hrow
          intro L hL oj hoj hed
          have hle := hej L hL oj hoj hed
          have hoe : ops[e]? = some ops[e] := by simp [hlt]
          exact hb y h L hL ops[e] hoe (hL e _ hle hoe)
    · exact hr y h

omit Sg in
theorem befTab_ok {ops : Array Oper} : ∀ (l : List Oper) (acc : List (List Nat)), (∀ j, l[j]? = ops[acc.length + j]?) → TabOk ops acc → TabOk ops (befTab l acc)
  | [], acc, _, h => h
  | o :: os, acc, hl, h => by
    simp only [befTab]
    have ho : ops[acc.length]? = some o := by have := hl 0; simpa using this.symm
    refine befTab_ok os _ (fun j => ?_) ?_
    · have := hl (j + 1)
      simp only [List.getElem?_cons_succ] at this
      rw [this]; simp; congr 1; omega
    · intro j row hj
      by_cases hlt : j < acc.length
      · rw [List.getElem?_append_left hlt] at hj
        exact h j row hj
      · have hje : j = acc.length := by
          have := (List.getElem?_eq_some_iff.1 hj).1
          simp at this; omega
        subst hje
        simp at hj
        subst hj
        exact ⟨(Array.getElem?_eq_some_iff.1 ho).1, befRow_ok h ho (fun _ h => h) (by simp)⟩

omit Sg in
theorem pairsB_spec {α : Type} {f : α → α → Bool} : ∀ {l : List α}, pairsB f l = true → ∀ {p r : Nat} {x y : α}, p < r → l[p]? = some x → l[r]? = some y → f x y = true
  | [], _, p, r, x, y, _, hx, _ => by simp at hx
  | z :: zs, h, p, r, x, y, hpr, hx, hy => by
    simp only [pairsB, Bool.and_eq_true] at h
    cases r with
    | zero => omega
    | succ r =>
      simp only [List.getElem?_cons_succ] at hy
      cases p with
      | zero =>
        simp only [List.getElem?_cons_zero, Option.some.injEq] at hx
        subst hx
        exact List.all_eq_true.1 h.1 y (List.mem_of_getElem? hy)
      | succ p =>
        simp only [List.getElem?_cons_succ] at hx
        exact pairsB_spec h.2 (by omega) hx hy

omit Sg in
theorem resolveP_spec {ops : List Oper} : ∀ {pl : List PStep} {r : List (PStep × Oper)}, resolveP ops pl = some r → ∀ {p : Nat} {x : PStep} {o : Oper}, pl[p]? = some x → ops[x.i]? = some o → r[p]? = some (x, o)
  | [], r, _, p, x, o, hx, _ => by simp at hx
  | z :: zs, r, h, p, x, o, hx, ho => by
    simp only [resolveP] at h
    cases h1 : ops[z.i]? with
    | none => rw [h1] at h; cases h
    | some oz => cases h2 : resolveP ops zs with
      | none => rw [h1, h2] at h; cases h
      | some rs =>
        rw [h1, h2] at h; cases h
        cases p with
        | zero =>
          simp only [List.getElem?_cons_zero, Option.some.injEq] at hx ⊢
          subst hx
          rw [h1] at ho; cases ho; rfl
        | succ p =>
          simp only [List.getElem?_cons_succ] at hx ⊢
          exact resolveP_spec h2 hx ho

omit Sg in
theorem downB_spec : ∀ {l : List Oper} {k : Nat}, downB l k = true → ∀ {j : Nat} {o : Oper}, l[j]? = some o → ∀ e ∈ edgesOf o, e < k + j
  | [], _, _, j, o, ho, _, _ => by simp at ho
  | z :: zs, k, h, j, o, ho, e, he => by
    simp only [downB, Bool.and_eq_true] at h
    cases j with
    | zero =>
      simp only [List.getElem?_cons_zero, Option.some.injEq] at ho
      subst ho
      have := blt_lt (List.all_eq_true.1 h.1 e he)
      omega
    | succ j =>
      simp only [List.getElem?_cons_succ] at ho
      have := downB_spec h.2 ho e he
      omega

omit Sg in
theorem seeB_spec {o : Option Nat} {l : List Nat} {b : Bool} (h : seeB o l b = true) {t : Nat} (ht : o = some t) (hm : t ∈ l) : b = true := by
  subst ht
  simp only [seeB] at h
  rw [memN_mem.2 hm] at h
  exact h

omit Sg in
theorem planB_facts {E : Env} {ops : Array Oper} {pl : List PStep} (h : planB E ops pl = true) : PlanFacts E ops pl := by
  unfold planB at h
  cases hr : resolveP ops.toList pl with
  | none => rw [hr] at h; cases h
  | some r =>
    rw [hr] at h
    simp only [Bool.and_eq_true] at h
    obtain ⟨⟨⟨⟨h1, h2⟩, h3⟩, h4⟩, h5⟩ := h
    have htab : TabOk ops (befTab ops.toList []) := befTab_ok ops.toList [] (fun j => by simp) (fun j row hj => by simp at hj)
    have get : ∀ {p : Nat} {x : PStep} {o : Oper}, pl[p]? = some x → ops[x.i]? = some o → r[p]? = some (x, o) := fun hx ho => resolveP_spec hr hx (by simpa using ho)
    have bef : ∀ {i j : Nat}, memN i (((befTab ops.toList [])[j]?).getD []) = true → Bef ops i j := by
      intro i j hm
      rw [memN_mem] at hm
      cases hj : (befTab ops.toList [])[j]? with
      | none => rw [hj] at hm; simp at hm
      | some row => rw [hj] at hm; exact (htab j row hj).2 i hm
    refine ⟨Nat.eq_of_beq_eq_true h1, ?_, ?_, ?_, ?_⟩
    · intro i hi
      have := List.all_eq_true.1 h2 i (List.mem_range.2 hi)
      obtain ⟨x, hx, he⟩ := List.any_eq_true.1 this
      obtain ⟨p, hp⟩ := List.mem_iff_getElem?.1 hx
      exact ⟨p, x, hp, Nat.eq_of_beq_eq_true he⟩
    · intro p x o hx ho
      have := List.all_eq_true.1 h3 (x, o) (List.mem_of_getElem? (get hx ho))
      simp only [oneB, Bool.and_eq_true] at this
      refine ⟨fun e => ?_, fun e t ht hm => ?_⟩
      · rw [e] at this; simp [isDf] at this
      · have h' := this.2
        rw [e, ht] at h'
        simp only [isRd, cond_true] at h'
        rw [memN_mem.2 hm] at h'
        cases h'
    · intro p r' x y ox oy hpr hx hy hox hoy
      have := pairsB_spec h4 hpr (get hx hox) (get hy hoy)
      simp only [twoB, Bool.and_eq_true] at this
      obtain ⟨⟨⟨⟨⟨⟨⟨g1, g2⟩, g3⟩, g4⟩, g5⟩, g6⟩, g7⟩, g8⟩ := this
      refine ⟨?_, ?_, ?_, ?_, ?_, ?_, ?_, ?_⟩
      · intro e; rw [e] at g1; simp at g1
      · intro t ht ht'
        rw [ht, ht'] at g2
        simp [dstB] at g2
      · intro t ht hm
        exact bef (seeB_spec g3 ht hm)
      · intro t ht hm
        have := seeB_spec g4 ht hm
        simp only [Bool.and_eq_true] at this
        refine ⟨bef this.1, fun e => ?_⟩
        rw [e] at this; simp [isRd] at this
      · intro e1 e2
        rw [e1, e2] at g5
        exact bef g5
      · intro e1 e2
        rw [e1] at g6
        refine bef ?_
        rcases e2 with e2 | e2
        · rw [e2] at g6; exact g6
        · rw [e2] at g6; simpa [isAl] using g6
      · intro e1 e2
        rw [e1, e2] at g7
        exact bef g7
      · intro e1 e2
        rw [e1, e2] at g8
        simp only [isRd, Bool.and_self, cond_true, Bool.or_eq_true] at g8
        rcases g8 with g | g
        · exact .inl (bef g)
        · exact .inr (memN_mem.1 g)
    · intro j o ho e he hb
      have := downB_spec h5 (j := j) (o := o) (by simpa using ho) e.on (mem_edgesOf.2 ⟨e, he, hb, rfl⟩)
      omega

end Go.Sh

namespace Go.Sh
open Go

variable [Sg : Sig]

/-- No operation of a code puts a call off. -/
def noDfr (E : Env) : Code → Bool
  | .region _ ops _ => ops.toList.all (fun o => !isDf (cls E o.op))
  | .seq a b => noDfr E a && noDfr E b
  | .cond _ a b => noDfr E a && noDfr E b
  | .block _ c => noDfr E c
  | .loop c => noDfr E c
  | _ => true

/-- What is asked of an environment, beyond its parts. -/
def planned (E : Env) (f : Nat) (id : Nat) (ops : Array Oper) : Bool := match E.plan f id with
  | some pl => planB E ops pl
  | none => true

structure Env.Good (E : Env) (P : Program) : Prop where
  ok : E.Ok P
  nodfr : ∀ f fn body, E.fn.get f = some fn → fn.body = some body → noDfr E body = true
  draws : ∀ f fn body, E.fn.get f = some fn → fn.body = some body → Code.drawsOk (planned E f) body = true

def Ex.toExit : Ex → Exit
  | .normal => .normal
  | .exit id => .exit id
  | .ret => .ret

section
variable {E : Env} {P : Program} {ι ι' : Inj} {s s' : St} {w w' : World} {callK : CallK}

/-- One operation in the order of the text. -/
theorem step1_wp (hE : E.Ok P) (hcall : CallsOk P callK)
    {ops : Array Oper} {o : Oper} {a a' : AA} (h : step1 E callK ops.toList o none a s = some (a', s')) (hd : cls E o.op ≠ .dfr) {ac : Act} (har : AR ι a ac) (hs : SR ι s w) {K : Act → World → Prop} {Q : Exit → Act → World → Prop}
    (hK : ∀ ι' ac' w', AR ι' a' ac' → Post ι s w ι' s' w' → K ac' w') :
    if Region.wanted o (yielded ops ac.tmps) then o.wp P ac w K Q else K (ac.put o.dst undef) w := by
  have hw := wantedA_eq har ops o
  have hρ := har.eval
  unfold step1 at h
  cases hwa : wantedA ops.toList o a with
  | false =>
    rw [hwa] at h; simp only [cond_false] at h
    rw [if_neg (by rw [← hw, hwa]; simp)]
    cases hp : a.put o.dst undef with
    | none => rw [hp] at h; cases h
    | some a1 => rw [hp] at h; cases h; exact hK ι _ _ (har.put hp (undef_VR ι)) (Post.refl hs)
  | true =>
    rw [hwa] at h; simp only [cond_true] at h
    rw [if_pos (by rw [← hw, hwa])]
    cases hc : cls E o.op <;> rw [hc] at h <;> simp only at h
    case pure =>
      cases hv : apure E a.eval o with
      | none => rw [hv] at h; cases h
      | some v =>
        rw [hv] at h; simp only at h
        cases hp : a.put o.dst v with
        | none => rw [hp] at h; cases h
        | some a1 =>
          rw [hp] at h; cases h
          exact step_wp hE hρ hs (.inl ⟨hc, hv, rfl⟩) fun ι' v' w' g1 g2 => hK ι' _ _ ((har.mono g2.ext).put hp g1) g2
    case read =>
      cases hv : aread E a.eval o s with
      | none => rw [hv] at h; cases h
      | some v =>
        rw [hv] at h; simp only at h
        cases hp : a.put o.dst v with
        | none => rw [hp] at h; cases h
        | some a1 =>
          rw [hp] at h; cases h
          exact step_wp hE hρ hs (.inr (.inl ⟨hc, hv, rfl⟩)) fun ι' v' w' g1 g2 => hK ι' _ _ ((har.mono g2.ext).put hp g1) g2
    case alloc =>
      cases hv : aalloc E a.eval o with
      | none => rw [hv] at h; cases h
      | some r =>
        obtain ⟨ob, f⟩ := r
        rw [hv] at h; simp only at h
        cases hp : a.put o.dst (f s.next) with
        | none => rw [hp] at h; cases h
        | some a1 =>
          rw [hp] at h; cases h
          exact step_wp hE hρ hs (.inr (.inr (.inr ⟨ob, f, hv, rfl, rfl⟩))) fun ι' v' w' g1 g2 => hK ι' _ _ ((har.mono g2.ext).put hp g1) g2
    case chain =>
      cases hv : achain E a.eval o s with
      | none => rw [hv] at h; cases h
      | some r =>
        obtain ⟨v, s1⟩ := r
        rw [hv] at h; simp only at h
        cases hp : a.put o.dst v with
        | none => rw [hp] at h; cases h
        | some a1 =>
          rw [hp] at h; cases h
          exact step_wp hE hρ hs (.inr (.inr (.inl hv))) fun ι' v' w' g1 g2 => hK ι' _ _ ((har.mono g2.ext).put hp g1) g2
    case call =>
      cases ho : o.op <;> rw [ho] at h <;> simp only at h <;> (try (cases h; done))
      rename_i c
      cases hcl : callee a.eval c with
      | none => rw [hcl] at h; cases h
      | some r =>
        obtain ⟨g, args⟩ := r
        rw [hcl] at h; simp only at h
        cases hv : callK g args s with
        | none => rw [hv] at h; cases h
        | some r =>
          obtain ⟨v, s1⟩ := r
          rw [hv] at h; simp only at h
          cases hp : a.put o.dst v with
          | none => rw [hp] at h; cases h
          | some a1 =>
            rw [hp] at h; cases h
            exact call_wp hE hρ hs ho hcall hcl hv fun ι' v' w' g1 g2 => hK ι' _ _ ((har.mono g2.ext).put hp g1) g2
    case dfr => exact absurd hc hd
    case bad => cases h

/-- A row of operations in the order of the text. -/
theorem runOps_wp (hE : E.Ok P) (hcall : CallsOk P callK)
    {ops : Array Oper} {Q : Exit → Act → World → Prop} : ∀ {l : List Oper} {a a' : AA} {s s' : St} {ι : Inj} {ac : Act} {w : World}, runOps E callK ops.toList l a s = some (a', s') → (∀ o ∈ l, cls E o.op ≠ .dfr) → AR ι a ac → SR ι s w →
      (∀ ι' ac' w', AR ι' a' ac' → Post ι s w ι' s' w' → Q .normal ac' w') → wpList P ops Q l ac w
  | [], a, a', s, s', ι, ac, w, h, _, har, hs, hQ => by
    simp only [runOps] at h; cases h
    exact hQ ι ac w har (Post.refl hs)
  | o :: rest, a, a', s, s', ι, ac, w, h, hd, har, hs, hQ => by
    simp only [runOps] at h
    cases h1 : step1 E callK ops.toList o none a s with
    | none => rw [h1] at h; cases h
    | some r =>
      obtain ⟨a1, s1⟩ := r
      rw [h1] at h; simp only at h
      refine wpList_step fun K hK => ?_
      refine step1_wp hE hcall h1 (hd o (by simp)) har hs fun ι1 ac1 w1 g1 g2 => hK _ _ ?_
      exact runOps_wp hE hcall h (fun o' h' => hd o' (by simp [h'])) g1 g2.rel fun ι2 ac2 w2 g3 g4 => hQ ι2 ac2 w2 g3 (g2.trans g4)

omit Sg in
theorem noDfr_of {E : Env} {l : List Oper} (h : l.all (fun o => !isDf (cls E o.op)) = true) : ∀ o ∈ l, cls E o.op ≠ .dfr := by
  intro o ho e
  have := List.all_eq_true.1 h o ho
  rw [e] at this; simp [isDf] at this

end

section
variable {E : Env} {P : Program}

def ExecOk (E : Env) (P : Program) (k : Nat) : Prop := ∀ f c a s ex a' s', exec E k f c a s = some (ex, a', s') → Code.drawsOk (planned E f) c = true → noDfr E c = true →
  ∀ ι ac w Q, AR ι a ac → SR ι s w → (∀ ι' ac' w', AR ι' a' ac' → Post ι s w ι' s' w' → Q ex.toExit ac' w') → c.wp P Q ac w

def LoopOk (E : Env) (P : Program) (k : Nat) : Prop := ∀ f c a s ex a' s', exec E k f (.loop c) a s = some (ex, a', s') → Code.drawsOk (planned E f) c = true → noDfr E c = true →
  ∀ ι ac w Q, AR ι a ac → SR ι s w → (∀ ι' ac' w', AR ι' a' ac' → Post ι s w ι' s' w' → Q ex.toExit ac' w') → Code.rounds P c Q k ac w

theorem eval_bool {a : AA} {ac : Act} {ι : Inj} (har : AR ι a ac) {c : Operand} {b : Bool} (h : a.eval c = some (.bool b)) : ac.eval c = .bool b := by
  have := har.eval c _ h
  generalize ac.eval c = y at this
  cases this; rfl

theorem exec_ok (hE : E.Ok P) (hcall : ∀ k, ExecOk E P k → CallsOk P (calls E k)) : ∀ k, ExecOk E P k ∧ LoopOk E P k := by
  intro k
  induction k with
  | zero => exact ⟨fun f c a s ex a' s' h => by simp [exec] at h, fun f c a s ex a' s' h => by simp [exec] at h⟩
  | succ k ih =>
    obtain ⟨ih, ihL⟩ := ih
    have hL : LoopOk E P (k + 1) := by
      intro f c a s ex a' s' h hd hn ι ac w Q har hs hQ
      simp only [exec] at h
      rw [rounds_succ]
      cases h1 : exec E k f c a s with
      | none => rw [h1] at h; cases h
      | some r =>
        obtain ⟨ex1, a1, s1⟩ := r
        rw [h1] at h
        refine ih f c a s ex1 a1 s1 h1 hd hn ι ac w _ har hs fun ι1 ac1 w1 g1 g2 => ?_
        cases ex1 with
        | normal =>
          simp only at h
          exact ihL f c a1 s1 ex a' s' h hd hn ι1 ac1 w1 Q g1 g2.rel fun ι2 ac2 w2 g3 g4 => hQ ι2 ac2 w2 g3 (g2.trans g4)
        | exit j => simp only at h; cases h; exact hQ ι1 ac1 w1 g1 g2
        | ret => simp only at h; cases h; exact hQ ι1 ac1 w1 g1 g2
    refine ⟨?_, hL⟩
    intro f c a s ex a' s' h hd hn ι ac w Q har hs hQ
    cases c <;> (try (simp only [exec] at h)) <;> (try (cases h; done))
    case skip => cases h; exact wp_skip (hQ ι ac w har (Post.refl hs))
    case label l => cases h; exact wp_label (hQ ι ac w har (Post.refl hs))
    case exit id => cases h; exact wp_exit (hQ ι ac w har (Post.refl hs))
    case ret => cases h; exact wp_ret (hQ ι ac w har (Post.refl hs))
    case seq x y =>
      simp only [Code.drawsOk, noDfr, Bool.and_eq_true] at hd hn
      cases h1 : exec E k f x a s with
      | none => rw [h1] at h; cases h
      | some r =>
        obtain ⟨ex1, a1, s1⟩ := r
        rw [h1] at h
        refine wp_seq (ih f x a s ex1 a1 s1 h1 hd.1 hn.1 ι ac w _ har hs fun ι1 ac1 w1 g1 g2 => ?_)
        cases ex1 with
        | normal =>
          simp only at h
          exact ih f y a1 s1 ex a' s' h hd.2 hn.2 ι1 ac1 w1 Q g1 g2.rel fun ι2 ac2 w2 g3 g4 => hQ ι2 ac2 w2 g3 (g2.trans g4)
        | exit j => simp only at h; cases h; exact hQ ι1 ac1 w1 g1 g2
        | ret => simp only at h; cases h; exact hQ ι1 ac1 w1 g1 g2
    case cond c x y =>
      simp only [Code.drawsOk, noDfr, Bool.and_eq_true] at hd hn
      cases hc : a.eval c with
      | none => rw [hc] at h; cases h
      | some v =>
        rw [hc] at h
        cases v <;> (try simp only at h) <;> (try (cases h; done))
        rename_i b
        cases b with
        | true => exact wp_cond_true (eval_bool har hc) (ih f x a s ex a' s' h hd.1 hn.1 ι ac w Q har hs hQ)
        | false => exact wp_cond_false (eval_bool har hc) (ih f y a s ex a' s' h hd.2 hn.2 ι ac w Q har hs hQ)
    case block id c =>
      simp only [Code.drawsOk, noDfr] at hd hn
      cases h1 : exec E k f c a s with
      | none => rw [h1] at h; cases h
      | some r =>
        obtain ⟨ex1, a1, s1⟩ := r
        rw [h1] at h
        refine wp_block (ih f c a s ex1 a1 s1 h1 hd hn ι ac w _ har hs fun ι1 ac1 w1 g1 g2 => ?_)
        cases ex1 with
        | normal => simp only at h; cases h; exact hQ ι1 ac1 w1 g1 g2
        | ret => simp only at h; cases h; exact hQ ι1 ac1 w1 g1 g2
        | exit j =>
          simp only at h
          simp only [Ex.toExit, Exit.inBlock]
          cases hb : Nat.beq j id with
          | true =>
            rw [hb] at h; simp only [cond_true] at h; cases h
            rw [if_pos (Nat.eq_of_beq_eq_true hb)]
            exact hQ ι1 ac1 w1 g1 g2
          | false =>
            rw [hb] at h; simp only [cond_false] at h; cases h
            rw [if_neg (by intro e; subst e; simp at hb)]
            exact hQ ι1 ac1 w1 g1 g2
    case loop c =>
      simp only [Code.drawsOk, noDfr] at hd hn
      refine wp_loop_rounds (k + 1) (hL f c a s ex a' s' ?_ hd hn ι ac w Q har hs hQ)
      simp only [exec]
      exact h
    case region id ops draw =>
      have hcl : CallsOk P (callOf E (exec E k)) := hcall k ih
      simp only [Code.drawsOk, noDfr] at hd hn
      cases draw with
      | false =>
        simp only [cond_false] at h
        cases hr : runOps E (callOf E (exec E k)) ops.toList ops.toList a s with
        | none => rw [hr] at h; cases h
        | some r =>
          obtain ⟨a1, s1⟩ := r
          rw [hr] at h; cases h
          exact wp_region_list (runOps_wp hE hcl hr (noDfr_of hn) har hs hQ)
      | true =>
        simp only [cond_true] at h hd
        cases hp : E.plan f id with
        | none => rw [hp] at h; cases h
        | some pl =>
          rw [hp] at h; simp only at h
          unfold planned at hd
          rw [hp] at hd; simp only at hd
          cases hr : runPlan E (callOf E (exec E k)) ops.toList s.next pl a { s with next := s.next + ops.toList.length } with
          | none => rw [hr] at h; cases h
          | some r =>
            obtain ⟨a1, s1⟩ := r
            rw [hr] at h; cases h
            exact region_ok hE hcl (planB_facts hd) hr har hs hQ

end
end Go.Sh

namespace Go.Sh
open Go

variable [Sg : Sig]

section
variable {E : Env} {P : Program} {ι : Inj} {s : St} {w : World}

def resOne (tmps : Array Value) : ResultVar → Sem Value := fun
  | .tmp t => pure (tmps.getD t undef)
  | .cell a t => do loadVar t (← asAddr (tmps.getD a undef))

theorem resList (hE : E.Ok P) {a : AA} {ac : Act} (har : AR ι a ac) (hs : SR ι s w) : ∀ {l : List ResultVar} {vs : List Value}, aresults E a s l = some vs →
    ∃ vs', (l.mapM (resOne ac.tmps)).run P w = .ok vs' w ∧ LR ι vs vs'
  | [], vs, h => by
    simp only [aresults] at h; cases h
    exact ⟨[], by simp, .nil⟩
  | .tmp t :: rest, vs, h => by
    simp only [aresults] at h
    cases h1 : aresults E a s rest with
    | none => rw [h1] at h; cases h
    | some vs1 =>
      rw [h1] at h; cases h
      obtain ⟨vs', h2, h3⟩ := resList hE har hs h1
      refine ⟨ac.tmps.getD t undef :: vs', ?_, .cons _ _ _ _ (har.tm t) h3⟩
      rw [List.mapM_cons]
      simp only [resOne, Sem.run_bind, Sem.run_pure, Result.andThen_ok]
      rw [h2]
      simp
  | .cell x t :: rest, vs, h => by
    simp only [aresults] at h
    cases hx : a.look x <;> rw [hx] at h <;> (try simp only at h) <;> (try (cases h; done))
    rename_i p
    cases p with
    | none => simp only at h; cases h
    | some p =>
      simp only at h
      cases hl : aload E s t p with
      | none => rw [hl] at h; cases h
      | some v =>
        cases h1 : aresults E a s rest with
        | none => rw [hl, h1] at h; cases h
        | some vs1 =>
          rw [hl, h1] at h; cases h
          obtain ⟨vs', h2, h3⟩ := resList hE har hs h1
          have hv := har.tm x
          rw [hx] at hv
          generalize hy : ac.tmps.getD x undef = y at hv
          cases hv with
          | ptr n off ni hni =>
            obtain ⟨v', h4, h5⟩ := aload_run hE hs hni hl
            refine ⟨v' :: vs', ?_, .cons _ _ _ _ h5 h3⟩
            rw [List.mapM_cons]
            simp only [resOne, hy, asAddr, Sem.run_bind, Sem.run_pure, Result.andThen_ok, h4]
            rw [h2]
            simp

theorem results_run (hE : E.Ok P) {fn : Func} {a : AA} {ac : Act} (har : AR ι a ac) (hs : SR ι s w) {vs : List Value} (h : aresults E a s fn.results.toList = some vs) :
    ∃ v', (results fn ac.tmps).run P w = .ok v' w ∧ VR ι (oneOr vs) v' := by
  obtain ⟨vs', h1, h2⟩ := resList hE har hs h
  have e : results fn ac.tmps = (do
      let vs ← fn.results.mapM (resOne ac.tmps)
      pure (if h : vs.size = 1 then vs[0] else .tuple vs)) := rfl
  have e2 : (fn.results.mapM (resOne ac.tmps)).run P w = .ok vs'.toArray w := by
    rw [Array.mapM_eq_mapM_toList, Sem.run_map, h1]; rfl
  refine ⟨_, by rw [e, Sem.run_bind, e2]; rfl, ?_⟩
  cases h2 with
  | nil => exact .tuple [] [] .nil
  | cons x y xs ys hv hl =>
    cases hl with
    | nil => exact hv
    | cons x2 y2 xs2 ys2 hv2 hl2 =>
      simp only [oneOr]
      rw [dif_neg (by simp)]
      exact .tuple _ _ (.cons _ _ _ _ hv (.cons _ _ _ _ hv2 hl2))

omit Sg in
theorem ofArgs_get : ∀ (l : List Value) (i : Nat) (t : Tr Value) (j : Nat), (ofArgs i l t).get j = if j < i then t.get j else (l[j - i]?).or (t.get j)
  | [], i, t, j => by simp [ofArgs]
  | v :: vs, i, t, j => by
    simp only [ofArgs]
    rw [ofArgs_get vs (i + 1) (t.set i v) j, Tr.get_set]
    by_cases h1 : j < i
    · rw [if_pos (by omega), if_pos h1, if_neg (by omega)]
    · rw [if_neg h1]
      by_cases h2 : j = i
      · subst h2
        rw [if_pos (by omega), if_pos rfl]; simp
      · rw [if_neg (by omega), if_neg h2]
        have : j - i = (j - (i + 1)) + 1 := by omega
        rw [this, List.getElem?_cons_succ]

omit Sg in
theorem lenIs_le {n : Nat} : ∀ {l : List Value}, lenIs n l = true → l.length ≤ n := by
  induction n with
  | zero => intro l h; cases l with
    | nil => simp
    | cons v vs => simp [lenIs] at h
  | succ n ih => intro l h; cases l with
    | nil => simp
    | cons v vs => simp only [lenIs] at h; have := ih h; simp; omega

theorem start_AR {n : Nat} {args ws : List Value} (h : LR ι args ws) (hl : lenIs n args = true) :
    AR ι { tm := ofArgs 0 args .leaf, n := n, df := [] } { tmps := (⟨ws⟩ : Array Value) ++ Array.replicate (n - ws.length) undef, defers := [] } := by
  have hlen := h.length
  have hle := lenIs_le hl
  refine ⟨?_, fun t => ?_, .nil⟩
  · simp; omega
  · simp only [AA.look, ofArgs_get]
    rw [if_neg (by omega)]
    simp only [Nat.sub_zero]
    have hleaf : (Tr.leaf : Tr Value).get t = none := by simp [Tr.get]
    rw [hleaf]
    by_cases ht : t < ws.length
    · have h1 : t < args.length := by omega
      obtain ⟨y, hy, hv⟩ := h.get (i := t) (x := args[t]) (by simp [h1])
      have e1 : (args[t]?.or none).getD undef = args[t] := by simp [h1]
      have e2 : ((⟨ws⟩ : Array Value) ++ Array.replicate (n - ws.length) undef).getD t undef = y := by
        have : ((⟨ws⟩ : Array Value) ++ Array.replicate (n - ws.length) undef)[t]? = some y := by
          rw [Array.getElem?_append_left (by simpa using ht)]
          simpa using hy
        rw [Array.getD_eq_getD_getElem?, this]; rfl
      rw [e1, e2]; exact hv
    · have e1 : (args[t]?.or none).getD undef = undef := by
        rw [List.getElem?_eq_none (by omega)]; rfl
      have e2 : ((⟨ws⟩ : Array Value) ++ Array.replicate (n - ws.length) undef).getD t undef = undef := by
        rw [Array.getD_eq_getD_getElem?, Array.getElem?_append_right (by simpa using Nat.le_of_not_lt ht)]
        rw [Array.getElem?_replicate]
        split <;> rfl
      rw [e1, e2]; exact undef_VR ι

end

section
variable {E : Env} {P : Program}

theorem calls_step (hG : E.Good P) {k : Nat} (hx : ExecOk E P k) : CallsOk P (calls E k) := by
  intro g args s v s' h ι w ws hs hl
  unfold calls callOf at h
  cases hp : E.prim g with
  | some p => rw [hp] at h; exact hG.ok.prim g p hp args s v s' h ι w ws hs hl
  | none =>
    rw [hp] at h; simp only at h
    unfold callBy at h
    cases hf : E.fn.get g with
    | none => rw [hf] at h; cases h
    | some fn =>
      rw [hf] at h; simp only at h
      cases hb : fn.body with
      | none => rw [hb] at h; cases h
      | some body =>
        rw [hb] at h; simp only at h
        refine .inl ⟨hG.ok.enter g fn hf (by rw [hb]; rfl) _ _, ?_⟩
        cases hlen : lenIs fn.ntmps args with
        | false => rw [hlen] at h; cases h
        | true =>
          rw [hlen] at h; simp only [cond_true] at h
          cases he : exec E k g body { tm := ofArgs 0 args .leaf, n := fn.ntmps, df := [] } s with
          | none => rw [he] at h; cases h
          | some r =>
            obtain ⟨ex, a, s1⟩ := r
            rw [he] at h
            have fin : (∃ vs, a.df = [] ∧ aresults E a s1 fn.results.toList = some vs ∧ v = oneOr vs ∧ s' = s1) → ex.toExit = .normal ∨ ex.toExit = .ret →
                Calls P g ⟨ws⟩ w fun e w' => ∃ ι' v', e = .returned v' ∧ VR ι' v v' ∧ Post ι s w ι' s' w' := by
              rintro ⟨vs, h1, h2, rfl, rfl⟩ hex
              refine calls_of_wp (hG.ok.fn g fn hf) hb ?_
              refine hx g body _ s ex a s' he (hG.draws g fn body hf hb) (hG.nodfr g fn body hf hb) ι _ w _ (start_AR hl hlen) hs fun ι' ac' w' g1 g2 => ?_
              obtain ⟨v', g3, g4⟩ := results_run hG.ok g1 g2.rel h2
              have hd : ac'.defers = [] := by
                have := g1.df
                rw [h1] at this
                generalize ac'.defers = l at this
                cases this; rfl
              rcases hex with hex | hex <;> rw [hex] <;> exact ⟨hd, v', g3, ι', v', rfl, g4, g2⟩
            have cont : (match (match a.df with | [] => some s1 | _ => none) with
                | some s2 => match aresults E a s2 fn.results.toList with
                  | some vs => some (oneOr vs, s2)
                  | none => none
                | none => none) = some (v, s') → ∃ vs, a.df = [] ∧ aresults E a s1 fn.results.toList = some vs ∧ v = oneOr vs ∧ s' = s1 := by
              intro h
              cases hdf : a.df with
              | cons d ds => rw [hdf] at h; cases h
              | nil =>
                rw [hdf] at h; simp only at h
                cases hr : aresults E a s1 fn.results.toList with
                | none => rw [hr] at h; cases h
                | some vs => rw [hr] at h; cases h; exact ⟨vs, rfl, rfl, rfl, rfl⟩
            cases ex with
            | exit id => simp only at h; cases h
            | normal => simp only [cond_true] at h; exact fin (cont h) (.inl rfl)
            | ret => simp only [cond_true] at h; exact fin (cont h) (.inr rfl)

/-- What the shadow's calls come to, the model's do. -/
theorem calls_ok (hG : E.Good P) (k : Nat) : CallsOk P (calls E k) := calls_step hG (exec_ok hG.ok (fun _ h => calls_step hG h) k).1

end
end Go.Sh

namespace Go.Sh
open Go

def AllP {α : Type} (p : α → Prop) : List α → Prop
  | [] => True
  | a :: l => p a ∧ AllP p l

theorem AllP.append {α : Type} {p : α → Prop} : ∀ {l m : List α}, AllP p l → AllP p m → AllP p (l ++ m)
  | [], _, _, h => h
  | _ :: _, _, h, h' => ⟨h.1, AllP.append h.2 h'⟩

theorem AllP.mem {α : Type} {p : α → Prop} : ∀ {l : List α}, AllP p l → ∀ {a : α}, a ∈ l → p a
  | _ :: l, h, a, hm => by
    rcases List.mem_cons.1 hm with rfl | hm
    · exact h.1
    · exact AllP.mem h.2 hm

def trOf {α : Type} (l : List (Nat × α)) : Tr α := l.foldl (fun t p => t.set p.1 p.2) .leaf

theorem trOf_mem {α : Type} {l : List (Nat × α)} {n : Nat} {a : α} (h : (trOf l).get n = some a) : (n, a) ∈ l := by
  have key : ∀ (l : List (Nat × α)) (t : Tr α), (l.foldl (fun t p => t.set p.1 p.2) t).get n = some a → (n, a) ∈ l ∨ t.get n = some a := by
    intro l
    induction l with
    | nil => intro t h; exact .inr h
    | cons p l ih =>
      intro t h
      rcases ih _ h with h | h
      · exact .inl (by simp [h])
      · rw [Tr.get_set] at h
        by_cases e : n = p.1
        · rw [if_pos e] at h; cases h
          exact .inl (by rw [e]; simp)
        · rw [if_neg e] at h; exact .inr h
  rcases key l .leaf h with h | h
  · exact h
  · rw [Tr.get_leaf] at h; cases h

def zcells : Option Value → List Value
  | some z => z.cells.toList
  | none => []

theorem TyOk.of {P : Program} {t : Nat} {i : TypeInfo} {d : TypeDesc} {z : Value} (hz : i.zero = some z) (hi : P.types[t]? = some i) (hu : P.underlying t = some d)
    (he : isAgg d = false ∨ (isAgg d = true ∧ P.eqGuardType P.depth t = false ∧ P.stoodInHeld t = false))
    (hp : (allV plainV (zcells i.zero) && cond (isAgg d) (match z with | .agg _ => true | _ => false) (match z with | .agg _ => false | .tuple _ => false | _ => true)) = true) : TyOk P t ⟨d, i.size, i.bytes, zcells i.zero⟩ := by
  simp only [Bool.and_eq_true] at hp
  have hi' : P.info? t = some i := by
    unfold Tables.info?
    rw [if_pos (Array.getElem?_eq_some_iff.1 hi).1]; exact hi
  refine ⟨⟨i, hi', rfl, rfl, z, hz, by rw [hz]; rfl, ?_, ?_⟩, hu, fun v hv => allV_mem.1 hp.1 v hv, fun h => ?_⟩
  · intro h
    have h2 := hp.2
    rw [hz]
    simp only at h
    rw [h] at h2
    cases z <;> simp [zcells, Value.cells] at h2 ⊢
  · intro h
    have h2 := hp.2
    rw [hz]
    simp only at h
    rw [h] at h2
    cases z <;> simp [zcells, Value.cells] at h2 ⊢
  · simp only at h
    rcases he with he | he
    · rw [h] at he; cases he
    · exact he.2

variable [Sg : Sig]

structure FnOk (P : Program) (f : Nat) (fn : Func) : Prop where
  at_ : P.funcs[f]? = some fn
  enter : fn.body.isSome = true → ∀ args w, (callFunc f args).run P w = .ok (.enter f args) w

def findPlan (id : Nat) : List (Nat × List PStep) → Option (List PStep)
  | [] => none
  | (j, pl) :: r => cond (Nat.beq j id) (some pl) (findPlan id r)

def planOf (t : Tr (List (Nat × List PStep))) (f id : Nat) : Option (List PStep) := match t.get f with
  | some l => findPlan id l
  | none => none

def lookOk (E : Env) (p : Nat × Func) : Bool := match p.2.body with
  | some b => Code.drawsOk (planned E p.1) b && noDfr E b
  | none => true

theorem Env.Good.of {P : Program} {tyT : Tr TI} {tyL : List (Nat × TI)} (hty : trOf tyL = tyT) (htyA : AllP (fun p => TyOk P p.1 p.2) tyL) {fnT : Tr Func} {fnL : List (Nat × Func)} (hfn : trOf fnL = fnT) (hfnA : AllP (fun p => FnOk P p.1 p.2) fnL)
    {prim : Nat → Option (List Value → St → Option (Value × St))} {plan : Nat → Nat → Option (List PStep)} {orc : BinOp → Value → Value → Option Value} {room : Nat → Bool} (hprim : ∀ f p, prim f = some p → PrimDone P f p)
    (horc : ∀ op u v r, orc op u v = some r → ∀ (ι : Inj) u' v' t w, VR ι u u' → VR ι v v' → ¬ (u' = .nilIface ∧ v' = .nilIface) ∧ (∀ xs, u' ≠ .agg xs) ∧ ∃ r', (binOp op t u' v').run P w = .ok r' w ∧ VR ι r r')
    (hroom : ∀ n, room n = true → ∃ k m, Sg.sym n = .int k m ∧ 0 ≤ m ∧ m.toNat ≤ 5000)
    (hm : P.follows .mixedOrders = true) (hl : fnL.all (lookOk { ty := tyT, fn := fnT, prim := prim, plan := plan, orc := orc, room := room }) = true) : Env.Good { ty := tyT, fn := fnT, prim := prim, plan := plan, orc := orc, room := room } P := by
  have hf : ∀ f fn, fnT.get f = some fn → (f, fn) ∈ fnL := fun f fn h => trOf_mem (by rw [hfn]; exact h)
  have hlook : ∀ f fn body, fnT.get f = some fn → fn.body = some body → Code.drawsOk (planned { ty := tyT, fn := fnT, prim := prim, plan := plan, orc := orc, room := room } f) body = true ∧ noDfr { ty := tyT, fn := fnT, prim := prim, plan := plan, orc := orc, room := room } body = true := by
    intro f fn body h hb
    have := List.all_eq_true.1 hl (f, fn) (hf f fn h)
    unfold lookOk at this
    simp only [hb, Bool.and_eq_true] at this
    exact this
  exact ⟨⟨fun t ti h => htyA.mem (trOf_mem (by rw [hty]; exact h)), fun f fn h => (hfnA.mem (hf f fn h)).at_, fun f fn h => (hfnA.mem (hf f fn h)).enter, hprim, hm, horc, hroom⟩,
    fun f fn body h hb => (hlook f fn body h hb).2, fun f fn body h hb => (hlook f fn body h hb).1⟩

end Go.Sh

namespace Go.Sh
open Go

variable [Sg : Sig]

/-! ### values with no address -/
def flatV : Value → Bool
  | .int _ _ => true
  | .bool _ => true
  | .string _ => true
  | .complex _ _ _ => true
  | _ => false

def argV : Value → Bool
  | .agg cs => allV flatV cs.toList
  | v => flatV v

def realF : Value → Value
  | .complex _ n _ => Sg.sym n
  | v => v

def realA : Value → Value
  | .agg cs => .agg ⟨cs.toList.map realF⟩
  | v => realF v

theorem VR.flat {ι : Inj} {v v' : Value} (h : VR ι v v') (hf : flatV v = true) : v' = realF v := by
  cases h <;> first | rfl | cases hf

theorem VR.of_flat {ι : Inj} {v : Value} (hf : flatV v = true) : VR ι v (realF v) := by
  cases v <;> first | (cases hf; done) | skip
  · exact .bool _
  · exact .int _ _
  · exact .sym _ _ _
  · exact .string _

theorem LR.flats {ι : Inj} : ∀ {l l' : List Value}, LR ι l l' → allV flatV l = true → l' = l.map realF
  | [], _, h, _ => by cases h; rfl
  | v :: l, _, h, hf => by
    cases h with
    | cons _ y _ ys hv hl =>
      simp only [allV, Bool.and_eq_true] at hf
      rw [hv.flat hf.1, LR.flats hl hf.2]; rfl

theorem LR.of_flats {ι : Inj} : ∀ {l : List Value}, allV flatV l = true → LR ι l (l.map realF)
  | [], _ => .nil
  | v :: l, hf => by
    simp only [allV, Bool.and_eq_true] at hf
    exact .cons _ _ _ _ (.of_flat hf.1) (LR.of_flats hf.2)

theorem VR.arg {ι : Inj} {v v' : Value} (h : VR ι v v') (hf : argV v = true) : v' = realA v := by
  cases h with
  | agg xs ys h => simp only [realA]; rw [h.flats hf]
  | any k n v h => cases hf
  | sym k n m => rfl
  | _ => first | rfl | cases hf

theorem VR.of_arg {ι : Inj} {v : Value} (hf : argV v = true) : VR ι v (realA v) := by
  cases v with
  | agg cs => exact .agg cs.toList _ (.of_flats hf)
  | _ => first | exact .of_flat hf | cases hf

theorem LR.args {ι : Inj} : ∀ {l l' : List Value}, LR ι l l' → allV argV l = true → l' = l.map realA
  | [], _, h, _ => by cases h; rfl
  | v :: l, _, h, hf => by
    cases h with
    | cons _ y _ ys hv hl =>
      simp only [allV, Bool.and_eq_true] at hf
      rw [hv.arg hf.1, LR.args hl hf.2]; rfl

theorem LR.of_args {ι : Inj} : ∀ {l : List Value}, allV argV l = true → LR ι l (l.map realA)
  | [], _ => .nil
  | v :: l, hf => by
    simp only [allV, Bool.and_eq_true] at hf
    exact .cons _ _ _ _ (.of_arg hf.1) (LR.of_args hf.2)

/-! ### names moved, values forgotten -/
def shV (d : Nat) : Value → Value
  | .pointer (some a) => .pointer (some ⟨d + a.block, a.off, a.spot⟩)
  | .slice (some a) l c => .slice (some ⟨d + a.block, a.off, a.spot⟩) l c
  | .map (some n) => .map (some (d + n))
  | .chan (some n) => .chan (some (d + n))
  | v => v

def flatR : Value → Bool
  | .agg _ => false
  | .tuple _ => false
  | .func _ _ _ => false
  | .iface _ _ => false
  | _ => true

theorem VR.shift {ι ι' : Inj} {d : Nat} (hx : ∀ n ni, ι n = some ni → ι' (d + n) = some ni) {v v' : Value} (h : VR ι v v') (hf : flatR v = true) : VR ι' (shV d v) v' := by
  cases h with
  | bool b => exact .bool b
  | int k n => exact .int k n
  | any k n _ h => exact .any k n _ h
  | sym k n m => exact .sym k n m
  | string s => exact .string s
  | pnil => exact .pnil
  | ptr n off ni h => exact .ptr (d + n) off ni (hx n ni h)
  | snil l c => exact .snil l c
  | slice n off len cap cap' ni h hc hle => exact .slice (d + n) off len cap cap' ni (hx n ni h) hc hle
  | szero a a' => exact .szero _ a'
  | mnil => exact .mnil
  | map n ni h => exact .map (d + n) ni (hx n ni h)
  | cnil => exact .cnil
  | chan n ni h => exact .chan (d + n) ni (hx n ni h)
  | nilFunc => exact .nilFunc
  | nilIface => exact .nilIface
  | _ => cases hf

theorem VR.isWord {ι : Inj} {v v' : Value} (h : VR ι v v') (hf : isWord v = true) : isWord v' = true := by
  cases h <;> first | rfl | assumption | exact Sg.word _ | cases hf

/-- A value, and what is kept of it. al: which numbers stand for which values. -/
def wkF (al : Nat → Value → Bool) (v u : Value) : Bool := match u with
  | .float _ _ => isWord v
  | .complex k n m => sameV v (.complex k n m) || al n v
  | u => sameV v u && flatR u

def wkL (al : Nat → Value → Bool) : List Value → List Value → Bool
  | [], [] => true
  | v :: vs, u :: us => wkF al v u && wkL al vs us
  | _, _ => false

def AlOk (al : Nat → Value → Bool) : Prop := ∀ n v, al n v = true → (∃ k a, v = .int k a) ∧ Sg.sym n = v

theorem wkF_VR {al : Nat → Value → Bool} (hal : AlOk al) {ι : Inj} {v v' u : Value} (h : VR ι v v') (hw : wkF al v u = true) : VR ι u v' ∧ flatR u = true := by
  have same : ∀ u, (sameV v u && flatR u) = true → VR ι u v' ∧ flatR u = true := by
    intro u hu
    simp only [Bool.and_eq_true] at hu
    have := sameV_eq hu.1
    subst this
    exact ⟨h, hu.2⟩
  cases u with
  | float k n => exact ⟨.any k n v' (h.isWord hw), rfl⟩
  | complex k n m =>
    simp only [wkF, Bool.or_eq_true] at hw
    refine ⟨?_, rfl⟩
    rcases hw with hw | hw
    · have := sameV_eq hw
      subst this
      exact h
    · obtain ⟨⟨k', a, rfl⟩, hs⟩ := hal n v hw
      cases h
      rw [← hs]
      exact .sym k n m
  | _ => exact same _ hw

theorem wkL_LR {al : Nat → Value → Bool} (hal : AlOk al) {ι ι' : Inj} {d : Nat} (hx : ∀ n ni, ι n = some ni → ι' (d + n) = some ni) : ∀ {vs us ws : List Value}, LR ι vs ws → wkL al vs us = true → LR ι' (us.map (shV d)) ws
  | [], [], _, h, _ => by cases h; exact .nil
  | v :: vs, u :: us, _, h, hw => by
    cases h with
    | cons _ y _ ys hv hl =>
      simp only [wkL, Bool.and_eq_true] at hw
      obtain ⟨h1, h2⟩ := wkF_VR hal hv hw.1
      exact .cons _ _ _ _ (h1.shift hx h2) (wkL_LR hal hx hl hw.2)
  | [], _ :: _, _, _, hw => by cases hw
  | _ :: _, [], _, _, hw => by cases hw

/-! ### the run's outcome -/
/-- What is kept of a run: its value, the rows, how many names. -/
structure Kept where
  vals : List Value
  rows : List (Nat × List Value)
  next : Nat

def keptOk (al : Nat → Value → Bool) (k : Kept) (r : Option (Value × St)) : Bool := match r with
  | some (v, s) => Nat.beq s.next k.next && (match v, k.vals with
      | .tuple vs, us => wkL al vs.toList us && cond (match us with | [_] => true | _ => false) false true
      | v, [u] => wkF al v u
      | _, _ => false) && k.rows.all (fun p => match s.heap.get p.1 with
        | some (.cells cs none false) => wkL al cs p.2
        | _ => false)
  | none => false

def Kept.value (k : Kept) (d : Nat) : Value := oneOr (k.vals.map (shV d))

def Kept.state (k : Kept) (s : St) : St :=
  { heap := k.rows.foldl (fun t p => t.set (s.next + p.1) (.cells (p.2.map (shV s.next)) none false)) s.heap, next := s.next + k.next }

omit Sg in
theorem kept_get {s : St} : ∀ (rows : List (Nat × List Value)) (t : Tr AObj) (m : Nat) (o : AObj), (rows.foldl (fun t p => t.set (s.next + p.1) (.cells (p.2.map (shV s.next)) none false)) t).get m = some o →
    t.get m = some o ∧ (∀ p ∈ rows, m ≠ s.next + p.1) ∨ ∃ p ∈ rows, m = s.next + p.1 ∧ o = .cells (p.2.map (shV s.next)) none false
  | [], t, m, o, h => .inl ⟨h, by simp⟩
  | p :: rows, t, m, o, h => by
    rcases kept_get rows _ m o h with ⟨h1, h2⟩ | ⟨q, hq, h1, h2⟩
    · rw [Tr.get_set] at h1
      by_cases e : m = s.next + p.1
      · rw [if_pos e] at h1; cases h1
        exact .inr ⟨p, by simp, e, rfl⟩
      · rw [if_neg e] at h1
        refine .inl ⟨h1, fun q hq => ?_⟩
        rcases List.mem_cons.1 hq with rfl | hq
        · exact e
        · exact h2 q hq
    · exact .inr ⟨q, by simp [hq], h1, h2⟩

omit Sg in
theorem kept_low {s : St} : ∀ (rows : List (Nat × List Value)) (t : Tr AObj) (m : Nat), m < s.next → (rows.foldl (fun t p => t.set (s.next + p.1) (.cells (p.2.map (shV s.next)) none false)) t).get m = t.get m
  | [], t, m, _ => rfl
  | p :: rows, t, m, h => by
    rw [List.foldl_cons, kept_low rows _ m h, Tr.get_set, if_neg (by omega)]

theorem fresh_ok {P : Program} {callK : CallK} (hc : CallsOk P callK) {al : Nat → Value → Bool} (hal : AlOk al) {g : FuncId} {args argsN : List Value} {k : Kept} (hr : keptOk al k (callK g argsN ⟨.leaf, 0⟩) = true)
    (ha : allV argV args = true) (haN : allV argV argsN = true) (heq : argsN.map realA = args.map realA) (hen : ∀ as w, (callFunc g as).run P w = .ok (.enter g as) w)
    {ι : Inj} {s : St} {w : World} {ws : List Value} (hs : SR ι s w) (hl : LR ι args ws) :
    Calls P g ⟨ws⟩ w fun e w' => ∃ ι' v', e = .returned v' ∧ VR ι' (k.value s.next) v' ∧ Post ι s w ι' (k.state s) w' := by
  cases hrun : callK g argsN ⟨.leaf, 0⟩ with
  | none => rw [hrun] at hr; cases hr
  | some r =>
    obtain ⟨v1, s1⟩ := r
    rw [hrun] at hr
    simp only [keptOk, Bool.and_eq_true] at hr
    obtain ⟨⟨hn, hv⟩, hrows⟩ := hr
    have hn := Nat.eq_of_beq_eq_true hn
    have hws : ws = argsN.map realA := by rw [hl.args ha, heq]
    have hl0 : LR (fun _ => none) argsN ws := by rw [hws]; exact LR.of_args haN
    have hs0 : SR (fun _ => none) ⟨.leaf, 0⟩ w := ⟨fun n o h => (by rw [Tr.get_leaf] at h; cases h), fun n m o p ni mi h => (by rw [Tr.get_leaf] at h; cases h), fun n ni h => (by cases h)⟩
    refine ((hc g argsN ⟨.leaf, 0⟩ v1 s1 hrun _ w ws hs0 hl0).calls hen).mono ?_
    rintro e w' ⟨ι1, v', rfl, hvr, hp⟩
    have hbig : ∀ n o ni, s1.heap.get n = some o → ι1 n = some ni → w.heap.size ≤ ni.blk := by
      intro n o ni h1 h2
      rcases hp.blk n o ni h1 h2 with h | ⟨m, p, mi, h, _⟩
      · exact h
      · rw [Tr.get_leaf] at h; cases h
    have hkeep : ∀ b, b < w.heap.size → w'.heap[b]? = w.heap[b]? := fun b hb => hp.frame b hb fun n o ni h => by rw [Tr.get_leaf] at h; cases h
    let ι' : Inj := fun m => if m < s.next then ι m else ι1 (m - s.next)
    have hlow : ∀ m, m < s.next → ι' m = ι m := fun m hm => if_pos hm
    have hhigh : ∀ n, ι' (s.next + n) = ι1 n := fun n => by
      show (if s.next + n < s.next then _ else _) = _
      rw [if_neg (by omega)]; congr 1; omega
    have hx : ∀ n ni, ι1 n = some ni → ι' (s.next + n) = some ni := fun n ni h => by rw [hhigh]; exact h
    have hext : Ext ι ι' := fun n ni h => by rw [hlow n (hs.fresh n ni h)]; exact h
    have hsn : ∀ m o, s.heap.get m = some o → m < s.next := fun m o h => let ⟨ni, h1, _⟩ := hs.obj m o h; hs.fresh m ni h1
    have hcase : ∀ m o, (k.state s).heap.get m = some o → (m < s.next ∧ s.heap.get m = some o) ∨ ∃ n cs cs1, m = s.next + n ∧ o = .cells (cs.map (shV s.next)) none false ∧ s1.heap.get n = some (.cells cs1 none false) ∧ wkL al cs1 cs = true := by
      intro m o h
      rcases kept_get k.rows s.heap m o h with ⟨h1, _⟩ | ⟨p, hp1, h1, h2⟩
      · exact .inl ⟨hsn m o h1, h1⟩
      · have := List.all_eq_true.1 hrows p hp1
        cases hg : s1.heap.get p.1 with
        | none => rw [hg] at this; cases this
        | some ob =>
          rw [hg] at this
          cases ob <;> (try simp only at this) <;> (try (cases this; done))
          rename_i cs1 esz ro
          cases esz <;> cases ro <;> (try simp only at this) <;> (try (cases this; done))
          exact .inr ⟨p.1, p.2, cs1, h1, h2, hg, this⟩
    refine ⟨ι', v', rfl, ?_, ⟨hext, ⟨?_, ?_, ?_⟩, hp.size, fun b hb _ => hkeep b hb, ?_, hp.calm, Nat.le_add_right _ _, ?_, ?_, ?_⟩⟩
    · cases v1 <;> (try simp only at hv)
      case tuple vs =>
        simp only [Bool.and_eq_true] at hv
        cases hvr with
        | tuple xs ys hl =>
          have := wkL_LR hal hx hl hv.1
          unfold Kept.value
          cases hk : k.vals with
          | nil => rw [hk] at this; exact .tuple _ _ this
          | cons u us =>
            cases us with
            | nil => rw [hk] at hv; simp at hv
            | cons u2 us => rw [hk] at this; exact .tuple _ _ this
      all_goals
        cases hk : k.vals with
        | nil => rw [hk] at hv; cases hv
        | cons u us =>
          cases us with
          | cons u2 us => rw [hk] at hv; cases hv
          | nil =>
            rw [hk] at hv
            obtain ⟨h1, h2⟩ := wkF_VR hal hvr hv
            unfold Kept.value
            rw [hk]
            exact h1.shift hx h2
    · intro m o hm
      rcases hcase m o hm with ⟨h1, h2⟩ | ⟨n, cs, cs1, rfl, rfl, h3, h4⟩
      · obtain ⟨ni, h3, h4⟩ := hs.obj m o h2
        exact ⟨ni, by rw [hlow m h1]; exact h3, h4.mono hext (hkeep _ h4.blk)⟩
      · obtain ⟨ni, h5, h6⟩ := hp.rel.obj n _ h3
        refine ⟨ni, hx n ni h5, ?_⟩
        obtain ⟨c, e, fr, g1, g2, g3, g4, g5, g6⟩ := h6
        have := wkL_LR hal hx g5 h4
        refine ⟨c, e, fr, g1, ?_, g3, g4, this, g6⟩
        rw [this.length, ← g5.length]; exact g2
    · intro a b p q ai bi ha hb hwr hai hbi hab
      rcases hcase a p ha with ⟨h1, h2⟩ | ⟨n, cs, cs1, rfl, rfl, h3, h4⟩
      · rw [hlow a h1] at hai
        obtain ⟨ai', g1, g2⟩ := hs.obj a p h2
        rw [hai] at g1; cases g1
        have hlt := g2.blk
        rcases hcase b q hb with ⟨h5, h6⟩ | ⟨n', cs', cs1', rfl, rfl, h7, h8⟩
        · rw [hlow b h5] at hbi
          exact hs.inj a b p q ai bi h2 h6 hwr hai hbi hab
        · rw [hhigh] at hbi
          have := hbig n' _ bi h7 hbi
          omega
      · rw [hhigh] at hai
        have hge := hbig n _ ai h3 hai
        rcases hcase b q hb with ⟨h5, h6⟩ | ⟨n', cs', cs1', rfl, rfl, h7, h8⟩
        · rw [hlow b h5] at hbi
          obtain ⟨bi', g1, g2⟩ := hs.obj b q h6
          rw [hbi] at g1; cases g1
          have := g2.blk
          omega
        · rw [hhigh] at hbi
          have := hp.rel.inj n n' _ _ ai bi h3 h7 (.inl rfl) hai hbi hab
          omega
    · intro m ni hm
      show m < s.next + k.next
      by_cases h : m < s.next
      · omega
      · have : ι1 (m - s.next) = some ni := by have := hm; simp only [ι', if_neg h] at this; exact this
        have := hp.rel.fresh _ _ this
        omega
    · intro m o ni hm ho hni
      rcases hcase m o hm with ⟨h1, h2⟩ | ⟨n, cs, cs1, rfl, rfl, h3, h4⟩
      · rw [hlow m h1] at hni
        exact .inr ⟨m, o, ni, h2, ho, hni, rfl⟩
      · rw [hhigh] at hni
        exact .inl (hbig n _ ni h3 hni)
    · intro m o hm
      rcases hcase m o hm with ⟨h1, h2⟩ | ⟨n, cs, cs1, rfl, rfl, h3, h4⟩
      · exact .inl ⟨o, h2⟩
      · exact .inr (by omega)
    · intro m ni hm
      by_cases h : m < s.next
      · rw [hlow m h] at hm; exact .inl hm
      · exact .inr (by omega)
    · intro m o ni hm hni
      rcases hcase m o hm with ⟨h1, h2⟩ | ⟨n, cs, cs1, rfl, rfl, h3, h4⟩
      · rw [hlow m h1] at hni
        exact .inr ⟨m, o, ni, h2, hni, rfl⟩
      · rw [hhigh] at hni
        exact .inl (hbig n _ ni h3 hni)

/-- A function's contract at some arguments: of a run from nothing. -/
def Kept.prim (k : Kept) (args : List Value) (as : List Value) (s : St) : Option (Value × St) :=
  cond (sameL sameV as args) (some (k.value s.next, k.state s)) none

theorem fresh_prim {P : Program} {callK : CallK} (hc : CallsOk P callK) {al : Nat → Value → Bool} (hal : AlOk al) {g : FuncId} {args argsN : List Value} {k : Kept} (hr : keptOk al k (callK g argsN ⟨.leaf, 0⟩) = true)
    (ha : allV argV args = true) (haN : allV argV argsN = true) (heq : argsN.map realA = args.map realA) (hen : ∀ as w, (callFunc g as).run P w = .ok (.enter g as) w) : PrimOk P g (k.prim args) := by
  intro as s v s' h ι w ws hs hl
  unfold Kept.prim at h
  cases hsame : sameL sameV as args with
  | false => rw [hsame] at h; cases h
  | true =>
    rw [hsame] at h; simp only [cond_true] at h; cases h
    have := sameL_eq (fun x y h => sameV_eq h) hsame
    subst this
    exact fresh_ok hc hal hr ha haN heq hen hs hl

end Go.Sh
