/-
  A shadow interpreter for the model's operations: the other operations that read. (No program in it.)
-/
import Derived.Test.YtnhofgbjmofcnaaGreatRShH
namespace Go.Sh
open Go

variable [Sg : Sig]

/-! ### slices of slices -/
inductive OV (ι : Inj) : Option Value → Option Value → Prop
  | none : OV ι none none
  | some (v w : Value) (h : VR ι v w) : OV ι (some v) (some w)

theorem oev_OV {ι : Inj} {ρ : Operand → Option Value} {ρ' : Operand → Value} (hρ : Env' ι ρ ρ') {x : Option Operand} {v : Option Value} (h : oev ρ x = some v) : OV ι v (x.map ρ') := by
  cases x with
  | none => simp [oev] at h; subst h; exact .none
  | some x =>
    simp only [oev] at h
    cases hx : ρ x with
    | none => rw [hx] at h; cases h
    | some a => rw [hx] at h; cases h; exact .some _ _ (hρ _ _ hx)

theorem bnd_run {P : Program} {ι : Inj} {v v' : Value} {y y' n : Nat} (h : bnd v y = some n) (hv : VR ι v v') (hy : y ≤ y') (c : BoundsCode) (w : World) :
    (Instr.sliceBound v' y' c).run P w = .ok n w ∧ n ≤ y := by
  cases v <;> simp only [bnd] at h <;> first | (cases h; done) | skip
  rename_i k i
  rw [hv.plain_eq.1 _ _ rfl]
  split at h
  · rename_i hb
    cases h
    have hb' : 0 ≤ i ∧ i ≤ (y' : Int) := ⟨hb.1, by omega⟩
    exact ⟨by simp [Instr.sliceBound, asIntOf, hb'], by omega⟩
  · cases h

theorem bounds_run {P : Program} {ι : Inj} {len cap cap' : Nat} {lo hi mx lo' hi' mx' : Option Value} {l h m : Nat} (hb : bounds len cap lo hi mx = some (l, h, m))
    (hl : OV ι lo lo') (hh : OV ι hi hi') (hm : OV ι mx mx') (hc : cap ≤ cap') (b : Bool) (w : World) :
    (Instr.sliceBounds b len cap' lo' hi' mx').run P w = .ok (l, h, if mx.isSome then m else cap') w ∧ l ≤ h ∧ h ≤ m ∧ m ≤ cap ∧ (mx = none → m = cap) := by
  unfold bounds at hb
  -- the parts, one by one
  have key : ∀ m0, obnd mx cap cap = some m0 → (match obnd hi len m0 with | none => none | some h => cond (Nat.ble h m0) (match obnd lo 0 h with | none => none | some l => some (l, h, m0)) none) = some (l, h, m) →
      m = m0 ∧ obnd hi len m = some h ∧ h ≤ m ∧ obnd lo 0 h = some l := by
    intro m0 _ h1
    cases hoh : obnd hi len m0 with
    | none => rw [hoh] at h1; cases h1
    | some h0 =>
      simp only [hoh] at h1
      cases hle : Nat.ble h0 m0 with
      | false => rw [hle] at h1; cases h1
      | true =>
        simp only [hle, cond_true] at h1
        cases hol : obnd lo 0 h0 with
        | none => rw [hol] at h1; cases h1
        | some l0 =>
          simp only [hol] at h1
          cases h1
          exact ⟨rfl, hoh, Nat.le_of_ble_eq_true hle, hol⟩
  cases hom : obnd mx cap cap with
  | none => rw [hom] at hb; cases hb
  | some m0 =>
    simp only [hom] at hb
    cases hm with
    | none =>
      simp only [obnd] at hom; cases hom
      cases hh with
      | none =>
        obtain ⟨rfl, k1, k2, k3⟩ := key _ rfl hb
        simp only [obnd] at k1; cases k1
        cases hl with
        | none => simp only [obnd] at k3; cases k3; exact ⟨by simp [Instr.sliceBounds], by omega, k2, by omega, fun _ => rfl⟩
        | some v v' hv =>
          simp only [obnd] at k3
          have g := fun c => bnd_run (P := P) k3 hv (Nat.le_refl _) c w
          exact ⟨by simp [Instr.sliceBounds, (g _).1], (g .sliceB).2, k2, by omega, fun _ => rfl⟩
      | some u u' hu =>
        obtain ⟨rfl, k1, k2, k3⟩ := key _ rfl hb
        simp only [obnd] at k1
        have gh := fun c => bnd_run (P := P) k1 hu hc c w
        cases hl with
        | none => simp only [obnd] at k3; cases k3; exact ⟨by simp [Instr.sliceBounds, (gh _).1], by omega, k2, by omega, fun _ => rfl⟩
        | some v v' hv =>
          simp only [obnd] at k3
          have g := fun c => bnd_run (P := P) k3 hv (Nat.le_refl _) c w
          exact ⟨by simp [Instr.sliceBounds, (g _).1, (gh _).1], (g .sliceB).2, k2, by omega, fun _ => rfl⟩
    | some x x' hx =>
      simp only [obnd] at hom
      have gm := fun c => bnd_run (P := P) hom hx hc c w
      cases hh with
      | none => cases hb
      | some u u' hu =>
        obtain ⟨rfl, k1, k2, k3⟩ := key _ (by simp only [obnd]; exact hom) hb
        simp only [obnd] at k1
        have gh := fun c => bnd_run (P := P) k1 hu (Nat.le_refl _) c w
        cases hl with
        | none => simp only [obnd] at k3; cases k3; exact ⟨by simp [Instr.sliceBounds, (gm _).1, (gh _).1], by omega, k2, (gm .index).2, fun e => by cases e⟩
        | some v v' hv =>
          simp only [obnd] at k3
          have g := fun c => bnd_run (P := P) k3 hv (Nat.le_refl _) c w
          exact ⟨by simp [Instr.sliceBounds, (gm _).1, (g _).1, (gh _).1], (g .sliceB).2, k2, (gm .index).2, fun e => by cases e⟩

omit Sg in
theorem extract_list (b : ByteArray) (l h : Nat) (hlh : l ≤ h) : b.extract l h = ⟨((b.data.toList.take h).drop l).toArray⟩ := by
  have : (b.extract l h).data = b.data.extract l h := by simp
  cases hb : b.extract l h with
  | mk d =>
    rw [hb] at this
    simp only at this
    subst this
    congr 1
    apply Array.ext'
    simp [Array.toList_extract, List.extract]
    rw [List.drop_take]

theorem aslice_run {E : Env} {P : Program} (hE : E.Ok P) {ι : Inj} {s : St} {w : World} (hs : SR ι s w) {t : Nat} {x x' : Value} {lo hi mx lo' hi' mx' : Option Value} {v : Value}
    (h : aslice E s t x lo hi mx = some v) (hx : VR ι x x') (hl : OV ι lo lo') (hh : OV ι hi hi') (hm : OV ι mx mx') :
    ∃ v', (Instr.sliceAt t x' lo' hi' mx').run P w = .ok v' w ∧ VR ι v v' := by
  unfold aslice at h
  cases ht : E.ty.get t with
  | none => rw [ht] at h; cases h
  | some ti =>
    simp only [ht] at h
    have hu := (hE.ty _ _ ht).und
    split at h
    · rename_i b hd; rw [hd] at hu
      cases hmx : mx.isSome with
      | true => rw [hmx] at h; cases h
      | false =>
        simp only [hmx, cond_false] at h
        have hmn : mx = none := by cases mx with | none => rfl | some _ => cases hmx
        subst hmn
        cases hm
        cases hb : bounds b.size b.size lo hi none with
        | none => rw [hb] at h; cases h
        | some lhm =>
          obtain ⟨l, hh', m⟩ := lhm
          simp only [hb] at h
          cases h
          obtain ⟨g1, g2, _⟩ := bounds_run (P := P) hb hl hh .none (Nat.le_refl _) false w
          rw [hx.plain_eq.2.2 _ rfl]
          refine ⟨_, ?_, .string _⟩
          simp [Instr.sliceAt, Instr.slice, run_underlying hu, g1, extract_list b l hh' g2]
    · rename_i e len cap hd; rw [hd] at hu
      cases he : E.ty.get e with
      | none => simp only [he] at h; cases h
      | some te =>
      have hsz := (hE.ty _ _ he).run_size (P := P) w
      cases hb : bounds len cap lo hi mx with
      | none => simp only [he, hb] at h; cases h
      | some lhm =>
        obtain ⟨l, hh', m⟩ := lhm
        simp only [he, hb] at h
        cases h
        obtain ⟨g1, g2, g3, g4, g5⟩ := bounds_run (P := P) hb hl hh hm (Nat.le_refl cap) true w
        have hm' : (if mx.isSome = true then m else cap) = m := by
          cases mx with
          | none => simp [g5 rfl]
          | some _ => simp
        rw [hm'] at g1
        cases hx
        refine ⟨.slice none (hh' - l) (m - l), ?_, .snil _ _⟩
        simp only [Instr.sliceAt, Instr.slice, Sem.run_bind, run_underlying hu, Result.andThen_ok, g1]
        simp [hsz]
    · rename_i e a len cap hd; rw [hd] at hu
      cases he : E.ty.get e with
      | none => simp only [he] at h; cases h
      | some te =>
        have hsz := (hE.ty _ _ he).run_size (P := P) w
        cases hg : s.heap.get a.block with
        | none => simp only [he, hg] at h; cases h
        | some o =>
          simp only [he, hg] at h
          cases o <;> (try simp only at h) <;> first | (cases h; done) | skip
          rename_i cs esz ro
          cases hb : bounds len cap lo hi mx with
          | none => simp only [hb] at h; cases h
          | some lhm =>
            obtain ⟨l, hh', m⟩ := lhm
            simp only [hb] at h
            cases hk : (eszOk esz te.size && a.spot.isNone) with
            | false => rw [hk] at h; cases h
            | true =>
              rw [hk] at h
              simp only [cond_true] at h
              cases h
              simp only [Bool.and_eq_true] at hk
              rcases hx.slice_some with ⟨n, off, ni, cap', rfl, hni, rfl, hco, hle⟩ | ⟨a', rfl, rfl, rfl⟩
              · obtain ⟨g1, g2, g3, g4, g5⟩ := bounds_run (P := P) hb hl hh hm hle true w
                have hes : ni.esz = esz := by obtain ⟨c, e', fr, _, _, h3, _⟩ := hs.cells hg hni; exact h3
                have hrun : (Instr.sliceAt t (.slice (some ⟨ni.blk, ni.d + off, none⟩) len cap') lo' hi' mx').run P w =
                    .ok (.slice (some (if (if mx.isSome = true then m else cap') = l then ⟨ni.blk, ni.d + off, none⟩ else ⟨ni.blk, ni.d + off + l * te.size, none⟩)) (hh' - l) ((if mx.isSome = true then m else cap') - l)) w := by
                  simp only [Instr.sliceAt, Instr.slice, Sem.run_bind, run_underlying hu, Result.andThen_ok, g1, hsz, Sem.run_pure]
                  by_cases hml : (if mx.isSome = true then m else cap') = l
                  · simp [hml]
                  · simp [hml, add_spot]
                refine ⟨_, hrun, ?_⟩
                have hstd : ∀ c1 c2, m - l = c1 → CapOk ni (off + l * te.size) c1 c2 → c1 ≤ c2 → VR ι (.slice (some ⟨n, off + l * te.size, none⟩) (hh' - l) (m - l)) (.slice (some ⟨ni.blk, ni.d + off + l * te.size, none⟩) (hh' - l) c2) := by
                  intro c1 c2 e1 hc2 hle2
                  subst e1
                  rw [Nat.add_assoc]
                  exact .slice n _ _ _ _ ni hni hc2 hle2
                by_cases hml : (if mx.isSome = true then m else cap') = l
                · rw [if_pos hml, hml]
                  have : m = l := by
                    cases mx with
                    | none => simp at hml; have := g5 rfl; omega
                    | some _ => simpa using hml
                  have e1 : hh' - l = 0 := by omega
                  have e2 : m - l = 0 := by omega
                  rw [e1, e2, Nat.sub_self]
                  exact .szero _ _
                · rw [if_neg hml]
                  refine hstd _ _ rfl ?_ ?_
                  · cases mx with
                    | some _ => simp; exact .inl rfl
                    | none =>
                      simp
                      have := g5 rfl
                      subst this
                      rcases hco with rfl | ⟨k, hk0, hk1, hk2, hk3⟩
                      · exact .inl rfl
                      · have hkt : k = te.size := by
                          rw [hes] at hk1
                          rw [hk1] at hk
                          simpa [eszOk, nat_beq_eq] using hk.1
                        subst hkt
                        refine .inr ⟨te.size, hk0, hk1, ?_, ?_⟩
                        · rw [Nat.add_assoc, ← Nat.add_mul, show l + (m - l) = m from by omega]; exact hk2
                        · rw [← Nat.add_assoc ni.d, Nat.add_assoc (ni.d + off), ← Nat.add_mul, show l + (cap' - l) = cap' from by omega]; exact hk3
                  · cases mx with
                    | some _ => simp
                    | none => simp; have := g5 rfl; omega
              · obtain ⟨g1, g2, g3, g4, g5⟩ := bounds_run (P := P) hb hl hh hm (Nat.le_refl 0) true w
                have e0 : l = 0 := by omega
                have e1 : hh' = 0 := by omega
                have e2 : m = 0 := by omega
                subst e0 e1 e2
                have hm0 : (if mx.isSome = true then 0 else 0) = 0 := by split <;> rfl
                rw [hm0] at g1
                refine ⟨.slice (some a') 0 0, ?_, by simpa using VR.szero _ _⟩
                simp only [Instr.sliceAt, Instr.slice, Sem.run_bind, run_underlying hu, Result.andThen_ok, g1, hsz, Sem.run_pure]
                simp
    · rename_i n e a hd; rw [hd] at hu
      cases he : E.ty.get e with
      | none => simp only [he] at h; cases h
      | some te =>
        have hsz := (hE.ty _ _ he).run_size (P := P) w
        cases hg : s.heap.get a.block with
        | none => simp only [he, hg] at h; cases h
        | some o =>
          simp only [he, hg] at h
          cases o <;> (try simp only at h) <;> first | (cases h; done) | skip
          rename_i cs esz ro
          cases esz with
          | some k => simp only at h; cases h
          | none =>
            cases hb : bounds n n lo hi mx with
            | none => simp only [hb] at h; cases h
            | some lhm =>
              obtain ⟨l, hh', m⟩ := lhm
              simp only [hb] at h
              cases hk : a.spot.isNone with
              | false => rw [hk] at h; cases h
              | true =>
                rw [hk] at h
                simp only [cond_true] at h
                cases h
                obtain ⟨p, off, ni, rfl, hni, rfl⟩ := hx.ptr_some
                obtain ⟨g1, g2, g3, g4, g5⟩ := bounds_run (P := P) hb hl hh hm (Nat.le_refl n) false w
                have hm' : (if mx.isSome = true then m else n) = m := by
                  cases mx with
                  | none => simp [g5 rfl]
                  | some _ => simp
                rw [hm'] at g1
                have hrun : (Instr.sliceAt t (.pointer (some ⟨ni.blk, ni.d + off, none⟩)) lo' hi' mx').run P w =
                    .ok (.slice (some (if m = l then ⟨ni.blk, ni.d + off, none⟩ else ⟨ni.blk, ni.d + off + l * te.size, none⟩)) (hh' - l) (m - l)) w := by
                  simp only [Instr.sliceAt, Instr.sureAddr, Sem.run_bind, run_underlying hu, Result.andThen_ok, g1, hsz, Sem.run_pure]
                  by_cases hml : m = l
                  · simp [hml]
                  · simp [hml, add_spot]
                refine ⟨_, hrun, ?_⟩
                by_cases hml : m = l
                · have e1 : hh' - l = 0 := by omega
                  have e2 : m - l = 0 := by omega
                  rw [e1, e2]
                  exact .szero _ _
                · rw [if_neg hml, Nat.add_assoc]
                  exact .slice p _ _ _ _ ni hni (.inl rfl) (Nat.le_refl _)
    · cases h

end Go.Sh
