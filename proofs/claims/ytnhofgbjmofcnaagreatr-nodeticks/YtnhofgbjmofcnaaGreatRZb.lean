/-
  NodeTicks: the arguments, as rows that are only read. NodeTicks: what came in is gone through.
-/
import Derived.Test.YtnhofgbjmofcnaaGreatRZa
import Derived.Test.YtnhofgbjmofcnaaGreatRXa
import Derived.WalkKit
import Derived.ProofKit
import Derived.OpenShut

namespace Go.Sh
open Go
open Go.Proofs Go.ChangeShapes Go.WideShapes Go.ChangeAt Go.RowKit

section
variable {H : Type} {enc : TypeId × Value → H} {P : Program} {w : World} {T : TypeId → Prop}

theorem sum_place : ∀ (l : List Nat) (i : Nat), i < l.sum → ∃ j s, l[j]? = some s ∧ (l.take j).sum ≤ i ∧ i < (l.take j).sum + s
  | [], i, h => by simp at h
  | a :: l, i, h => by
    by_cases ha : i < a
    · exact ⟨0, a, rfl, by simp, by simpa using ha⟩
    · simp only [List.sum_cons] at h
      obtain ⟨j, s, h1, h2, h3⟩ := sum_place l (i - a) (by omega)
      refine ⟨j + 1, s, by simpa using h1, ?_, ?_⟩
      · simp only [List.take_succ_cons, List.sum_cons]; omega
      · simp only [List.take_succ_cons, List.sum_cons]; omega

/-- What reads as data is cells. -/
theorem trod_isCell (K : Kids P T) : ∀ (n : Nat) (t : TypeId) (cs : List Value) (x : DataW H × List MemPlace), T t → DataW.trod enc P w 0 (fun _ => true) true n t cs = some x → ∀ v ∈ cs, isCell v = true := by
  intro n
  induction n with
  | zero => intro t cs x _ h; simp [DataW.trod] at h
  | succ n ih =>
    intro t cs x hT h v hv
    by_cases hs : ∃ fs, P.underlying t = some (.struct fs)
    · obtain ⟨fs, hu⟩ := hs
      obtain ⟨xs, m, hm, _, hlen, hxl, hf⟩ := DataW.trod_struct hu h
      obtain rfl : n = m := by omega
      obtain ⟨hk1, hk2, hk3⟩ := K.struct hT hu
      obtain ⟨i, hi⟩ := List.mem_iff_getElem?.1 hv
      have hlt : i < cs.length := (List.getElem?_eq_some_iff.1 hi).1
      rw [hlen, hk2] at hlt
      obtain ⟨j, s, h1, h2, h3⟩ := sum_place _ i hlt
      rw [List.getElem?_map] at h1
      cases hfj : fs.toList[j]? with
      | none => rw [hfj] at h1; cases h1
      | some f =>
        rw [hfj] at h1
        simp only [Option.map_some, Option.some.injEq] at h1
        have hoff := hk3 j f hfj
        have hmem := List.mem_of_getElem? hfj
        have hjl : j < fs.size := by have := (List.getElem?_eq_some_iff.1 hfj).1; simpa using this
        have := hf j f (by simpa using hfj)
        have hxj : xs[j]? = some xs[j] := by simp [hxl, hjl]
        rw [hxj] at this
        refine ih f.type _ _ (hk1 f hmem) this v ?_
        rw [← List.map_take] at h2 h3
        rw [← hoff] at h2 h3
        refine List.mem_iff_getElem?.2 ⟨i - f.offset, ?_⟩
        rw [List.getElem?_take_of_lt (by omega), List.getElem?_drop]
        rw [← hi]; congr 1; omega
    by_cases ha : ∃ k e, P.underlying t = some (.array k e)
    · obtain ⟨k, e, hu⟩ := ha
      obtain ⟨xs, m, hm, _, hlen, hxl, hf⟩ := DataW.trod_array hu h
      obtain rfl : n = m := by omega
      obtain ⟨hk1, hk2⟩ := K.array hT hu
      obtain ⟨i, hi⟩ := List.mem_iff_getElem?.1 hv
      have hlt : i < cs.length := (List.getElem?_eq_some_iff.1 hi).1
      rw [hlen, hk2] at hlt
      have hpos : 0 < P.cellsOf e := by
        rcases Nat.eq_zero_or_pos (P.cellsOf e) with h0 | h0
        · rw [h0] at hlt; simp at hlt
        · exact h0
      have hj : i / P.cellsOf e < k := Nat.div_lt_of_lt_mul (by rwa [Nat.mul_comm])
      have := hf (i / P.cellsOf e) hj
      have hxj : xs[i / P.cellsOf e]? = some xs[i / P.cellsOf e] := by simp [hxl, hj]
      rw [hxj] at this
      refine ih e _ _ hk1 this v ?_
      have h1 := Nat.div_add_mod i (P.cellsOf e)
      have h2 := Nat.mod_lt i hpos
      refine List.mem_iff_getElem?.2 ⟨i % P.cellsOf e, ?_⟩
      rw [List.getElem?_take_of_lt h2, List.getElem?_drop]
      rw [← hi]; congr 1
      rw [Nat.mul_comm] at h1; omega
    · unfold DataW.trod at h
      split at h
      case h_9 fs hu => exact absurd ⟨fs, hu⟩ hs
      case h_10 k e hu => exact absurd ⟨k, e, hu⟩ ha
      all_goals first
        | (simp only [List.mem_singleton] at hv; subst hv; rfl)
        | cases h

theorem cells_get {b o k : Nat} {cs : List Value} (h : w.cells? 0 ⟨b, o, none⟩ k = some cs) : cs.length = k ∧ ∀ (j : Nat) u, cs[j]? = some u → w.cell? ⟨b, o + j, none⟩ = some u := by
  unfold World.cells? at h
  rw [if_pos (Nat.zero_le _)] at h
  have hl : cs.length = k := by simpa using mapM_some_length h
  refine ⟨hl, fun j u hu => ?_⟩
  have hj : j < k := by rw [← hl]; exact (List.getElem?_eq_some_iff.1 hu).1
  have := mapM_some_get h j j (by simp [hj])
  rw [Addr.add_lit] at this
  rw [this, hu]

/-- A slice that came in. -/
theorem slice_in {t e : TypeId} {v : Value} {r : Reach} {b0 : Nat} {d : DataW H} {ps : List MemPlace} (ht : P.underlying t = some (.slice e)) (hk : 0 < P.cellsOf e) (hval : Value.okWide P w r b0 t v) (hd : DataW.Trod enc P w 0 (fun _ => true) true t v d ps) :
    v = .slice none 0 0 ∨ (∃ a, v = .slice (some a) 0 0) ∨ ∃ b off len cap n, v = .slice (some ⟨b, off, none⟩) len cap ∧ len ≤ cap ∧ 0 < cap ∧
      ∀ i, i < cap → ∃ cs y, cs.length = P.cellsOf e ∧ (∀ (j : Nat) u, cs[j]? = some u → w.cell? ⟨b, off + i * P.cellsOf e + j, none⟩ = some u) ∧ DataW.trod enc P w 0 (fun _ => true) true n e cs = some y := by
  obtain ⟨a, len, cap, rfl⟩ := okWide_slice ht hval
  obtain ⟨fuel, hf⟩ := hd
  cases fuel with
  | zero => simp [DataW.trod] at hf
  | succ n =>
    have hf : DataW.trod enc P w 0 (fun _ => true) true (n + 1) t [.slice a len cap] = some (d, ps) := hf
    cases a with
    | none =>
      unfold DataW.trod at hf
      rw [ht] at hf
      split at hf <;> first | (cases hf; done) | skip
      all_goals (first | (rename_i h1 h2; simp at h2; obtain ⟨rfl, rfl⟩ := h2; exact .inl rfl) | (rename_i h2; simp at h2; obtain ⟨rfl, rfl⟩ := h2; exact .inl rfl) | simp_all)
    | some a =>
      unfold DataW.trod at hf
      simp only [ht] at hf
      split at hf
      case isFalse => cases hf
      case isTrue hc =>
      obtain ⟨_, hlc, _⟩ := hc
      simp only [if_true, Option.map_eq_some_iff, Option.bind_eq_some_iff] at hf
      obtain ⟨elems, he, rest, hrest, _⟩ := hf
      have hel : elems.length = len := by simpa using mapM_some_length he
      have hrl : rest.length = cap - len := by simpa using mapM_some_length hrest
      have one : ∀ i, i < cap → ∃ y, (w.cells? 0 (a.add (i * P.cellsOf e)) (P.cellsOf e)).bind (DataW.trod enc P w 0 (fun _ => true) true n e) = some y := by
        intro i hi
        by_cases h1 : i < len
        · have := mapM_some_get he i i (by simp [h1])
          exact ⟨elems[i], by rw [this]; simp [hel, h1]⟩
        · have := mapM_some_get hrest (i - len) (i - len) (by rw [List.getElem?_range (by omega)])
          have e1 : len + (i - len) = i := by omega
          rw [e1] at this
          exact ⟨rest[i - len]'(by omega), by rw [this]; simp⟩
      by_cases h0 : cap = 0
      · subst h0
        obtain rfl : len = 0 := by omega
        exact .inr (.inl ⟨a, rfl⟩)
      · refine .inr (.inr ?_)
        obtain ⟨b, off, sp⟩ := a
        have hsp : sp = none := by
          obtain ⟨y, hy⟩ := one 0 (by omega)
          simp only [Option.bind_eq_some_iff] at hy
          obtain ⟨cs, hcs, _⟩ := hy
          unfold World.cells? at hcs
          rw [if_pos (Nat.zero_le _)] at hcs
          have hl : cs.length = P.cellsOf e := by simpa using mapM_some_length hcs
          have hg := mapM_some_get hcs 0 0 (by simp [hk])
          have h0' : cs[0]? = some (cs[0]'(by omega)) := by simp
          rw [h0'] at hg
          rw [Nat.zero_mul] at hg
          have ha : ((⟨b, off, sp⟩ : Addr).add 0).add 0 = ⟨b, off, sp⟩ := by simp [Addr.add]
          rw [ha] at hg
          unfold World.cell? at hg
          split at hg
          · cases sp with
            | none => rfl
            | some s => simp at hg
          · cases hg
        subst hsp
        refine ⟨b, off, len, cap, n, rfl, hlc, by omega, fun i hi => ?_⟩
        obtain ⟨y, hy⟩ := one i hi
        simp only [Option.bind_eq_some_iff] at hy
        obtain ⟨cs, hcs, hy⟩ := hy
        rw [Addr.add_lit] at hcs
        obtain ⟨g1, g2⟩ := cells_get hcs
        exact ⟨cs, y, g1, g2, hy⟩

end

/-! ### rows that are only read -/
def shC (v : Value) : Value := match v with
  | .int k n => .int k n
  | .bool b => .bool b
  | _ => .float .f64 0

theorem shC_VR [Sg : Sig] {ι : Inj} {v : Value} (h : isCell v = true) : VR ι (shC v) v := by
  cases v <;> first | exact .int _ _ | exact .bool _ | exact .any _ _ _ rfl | cases h

theorem shC_LR [Sg : Sig] {ι : Inj} : ∀ {l : List Value}, (∀ v ∈ l, isCell v = true) → LR ι (l.map shC) l
  | [], _ => .nil
  | v :: l, h => .cons _ _ _ _ (shC_VR (h v (by simp))) (shC_LR fun u hu => h u (by simp [hu]))

/-- A name's row, if there is one. -/
structure RowIn (w : World) (R : Option (NI × List Value)) : Prop where
  or : ∀ [Sig] (ι : Inj) (ni : NI) (row : List Value), R = some (ni, row) → OR ι w ni (.cells row none true)

theorem cell_heap {w : World} {b o : Nat} {v : Value} (h : w.cell? ⟨b, o, none⟩ = some v) : ∃ c e fr, w.heap[b]? = some (.cells c e fr) ∧ c[o]? = some v := by
  unfold World.cell? at h
  simp only at h
  cases hb : w.heap[b]? with
  | none => rw [hb] at h; cases h
  | some ob =>
    rw [hb] at h
    cases ob <;> (try simp only at h) <;> (try (cases h; done))
    rename_i c e fr
    exact ⟨c, e, fr, rfl, by simpa using h⟩

/-- The cells of so many elements. -/
theorem row_in {w : World} {b off k len : Nat} {c : Array Value} {e : TypeId} {fr : Nat × Nat} (hb : w.heap[b]? = some (.cells c e fr)) (hk : 0 < k) (hoff : off ≤ c.size) (h : ∀ i, i < len → ∃ cs : List Value, cs.length = k ∧ (∀ v ∈ cs, isCell v = true) ∧ ∀ (j : Nat) u, cs[j]? = some u → w.cell? ⟨b, off + i * k + j, none⟩ = some u) :
    RowIn w (some (⟨b, off, len * k, c.size, none⟩, (piece c off (len * k)).map shC)) ∧ (piece c off (len * k)).length = len * k := by
  have hcell : ∀ m, m < len * k → ∃ v, c[off + m]? = some v ∧ isCell v = true := by
    intro m hm
    have h1 := Nat.div_add_mod m k
    have h2 := Nat.mod_lt m hk
    have hi : m / k < len := Nat.div_lt_of_lt_mul (by rwa [Nat.mul_comm])
    obtain ⟨cs, g1, g2, g3⟩ := h _ hi
    have hj : cs[m % k]? = some cs[m % k] := by simp [g1, h2]
    have := g3 _ _ hj
    rw [cell_at hb] at this
    refine ⟨cs[m % k], ?_, g2 _ (List.getElem_mem _)⟩
    rw [← this]; congr 1
    rw [Nat.mul_comm] at h1; omega
  have hsz : off + len * k ≤ c.size := by
    by_cases h0 : len * k = 0
    · omega
    · obtain ⟨v, hv, _⟩ := hcell (len * k - 1) (by omega)
      have := (Array.getElem?_eq_some_iff.1 hv).1
      omega
  have hpl : (piece c off (len * k)).length = len * k := by
    unfold piece
    rw [List.length_take, List.length_drop]
    simp; omega
  refine ⟨⟨fun {_} ι ni row hR => ?_⟩, hpl⟩
  cases hR
  refine ⟨c, e, fr, hb, by simp [hpl], rfl, hsz, ?_, (fun h => by cases h), (fun h => by cases h), rfl, (fun k h => by cases h)⟩
  refine shC_LR fun v hv => ?_
  obtain ⟨m, hm⟩ := List.mem_iff_getElem?.1 hv
  have hlt : m < len * k := by rw [← hpl]; exact (List.getElem?_eq_some_iff.1 hm).1
  obtain ⟨u, hu, hc⟩ := hcell m hlt
  have : u = v := by
    unfold piece at hm
    rw [List.getElem?_take_of_lt hlt, List.getElem?_drop] at hm
    have h1 : c.toList[off + m]? = some u := by simpa using hu
    rw [h1] at hm; cases hm; rfl
  rw [← this]; exact hc

theorem piece_at {w : World} {b off m n : Nat} {c : Array Value} {e : TypeId} {fr : Nat × Nat} {v : Value} (hb : w.heap[b]? = some (.cells c e fr)) (hm : m < n) (h : w.cell? ⟨b, off + m, none⟩ = some v) : (piece c off n)[m]? = some v := by
  rw [cell_at hb] at h
  unfold piece
  rw [List.getElem?_take_of_lt hm, List.getElem?_drop]
  simpa using h

end Go.Sh

namespace Go.Sh
open Go
open Go.Proofs Go.ChangeShapes Go.WideShapes Go.ChangeAt Go.RowKit

/-! ### what is told, all of it -/
noncomputable def primT : PrimF := fun f => cond (Nat.beq f 6) (some knP) (cond (Nat.beq f 40) (some nxtP) (cond (Nat.beq f 164) (some (insP 1)) (cond (Nat.beq f 165) (some (insP 15)) none)))

theorem ponly : POnly primT where
  only := fun g h1 h2 h3 h4 => by
    have e : ∀ a, g ≠ a → Nat.beq g a = false := fun a h => by simp [nat_beq_eq, h]
    simp [primT, e _ h1, e _ h2, e _ h3, e _ h4]
  ins1 := rfl
  ins15 := rfl
  nxt := rfl
  known := rfl

theorem goodT [Sg : Sig] : (tE primT).Good Tryz.prog := by
  refine seat_good primT _ _ (fun f p h => ?_) (fun _ _ _ _ h => by cases h) (fun _ h => by cases h)
  unfold primT at h
  cases h1 : Nat.beq f 6 with
  | true =>
    have := Nat.eq_of_beq_eq_true h1
    subst this; cases h
    exact .of known_prim Tryz.call6
  | false =>
    rw [h1] at h
    cases h2 : Nat.beq f 40 with
    | true =>
      have := Nat.eq_of_beq_eq_true h2
      subst this; cases h
      exact .of next_prim Tryz.call40
    | false =>
      rw [h2] at h
      cases h3 : Nat.beq f 164 with
      | true =>
        have := Nat.eq_of_beq_eq_true h3
        subst this; cases h
        exact .of ins164 Tryz.call164
      | false =>
        rw [h3] at h
        cases h4 : Nat.beq f 165 with
        | true =>
          have := Nat.eq_of_beq_eq_true h4
          subst this; cases h
          exact .of ins165 Tryz.call165
        | false => rw [h4] at h; cases h

/-! ### types -/
noncomputable def fs46 : Array Field := match Tryz.t45.desc with
  | .struct fs => fs
  | _ => #[]
noncomputable def fs59 : Array Field := match Tryz.t58.desc with
  | .struct fs => fs
  | _ => #[]
noncomputable def fs51 : Array Field := match Tryz.t50.desc with
  | .struct fs => fs
  | _ => #[]

theorem und46 : Tryz.prog.underlying 46 = some (.struct fs46) := Tryz.underlying46
theorem und59 : Tryz.prog.underlying 59 = some (.struct fs59) := Tryz.underlying59
theorem und51 : Tryz.prog.underlying 51 = some (.struct fs51) := Tryz.underlying51

theorem kidsT : Kids Tryz.prog (· < Tryz.prog.types.size) := kids_rows (by kernel_rfl) (by kernel_rfl)
theorem fullT : ∀ t e, t < Tryz.prog.types.size → Tryz.prog.underlying t = some (.slice e) → 0 < Tryz.prog.cellsOf e := slices_full_of Tryz.prog (by kernel_rfl)
theorem sizeT : Tryz.prog.types.size = 411 := by kernel_rfl

def isU64 (l : List Nat) (i : Nat) : Bool := memN i l
def kindL (l : List Nat) (i : Nat) : IntKind := cond (memN i l) .u64 .i64
def typeL (l : List Nat) (i : Nat) : Nat := cond (memN i l) 22 3

theorem undL (l : List Nat) (i : Nat) : Tryz.prog.underlying (typeL l i) = some (.int (kindL l i)) := by
  unfold typeL kindL
  cases memN i l with
  | true => exact Tryz.underlying22
  | false => exact Tryz.underlying3

theorem cellsL (l : List Nat) (i : Nat) : Tryz.prog.cellsOf (typeL l i) = 1 := by
  unfold typeL
  cases memN i l with
  | true => kernel_rfl
  | false => kernel_rfl

def fieldsOk (l : List Nat) (n : Nat) (fs : Array Field) : Bool := (List.range n).all fun i => match fs.toList[i]? with
  | some f => Nat.beq f.offset i && Nat.beq f.type (typeL l i)
  | none => false

theorem fieldsOk_at {l : List Nat} {n : Nat} {fs : Array Field} (h : fieldsOk l n fs = true) (i : Nat) (hi : i < n) : ∃ f, fs[i]? = some f ∧ f.offset = i ∧ f.type = typeL l i := by
  have := List.all_eq_true.1 h i (List.mem_range.2 hi)
  cases hf : fs.toList[i]? with
  | none => rw [hf] at this; cases this
  | some f =>
    rw [hf] at this
    simp only [Bool.and_eq_true] at this
    exact ⟨f, by simpa using hf, Nat.eq_of_beq_eq_true this.1, Nat.eq_of_beq_eq_true this.2⟩

theorem ok46 : fieldsOk [20, 21] 22 fs46 = true := by kernel_rfl
theorem ok51 : fieldsOk [7, 8] 9 fs51 = true := by kernel_rfl
theorem size46 : fs46.size = 22 := by kernel_rfl
theorem size51 : fs51.size = 9 := by kernel_rfl
theorem size59 : fs59.size = 5 := by kernel_rfl
theorem cells46 : Tryz.prog.cellsOf 46 = 22 := by kernel_rfl
theorem cells51 : Tryz.prog.cellsOf 51 = 9 := by kernel_rfl
theorem cells59 : Tryz.prog.cellsOf 59 = 31 := by kernel_rfl
theorem cells22 : Tryz.prog.cellsOf 22 = 1 := by kernel_rfl
theorem op59 : ((match fs59.toList[2]? with
  | some f => Nat.beq f.offset 2 && Nat.beq f.type 51
  | none => false) : Bool) = true := by kernel_rfl

section
variable {H : Type} {enc : TypeId × Value → H} {w : World}

/-- A row of integers, read. -/
theorem ints_row {l : List Nat} {k : Nat} {fs : Array Field} {t n : Nat} {cs : List Value} {x : DataW H × List MemPlace} (hu : Tryz.prog.underlying t = some (.struct fs)) (hok : fieldsOk l k fs = true) (hsz : fs.size = k) (hc : Tryz.prog.cellsOf t = k)
    (h : DataW.trod enc Tryz.prog w 0 (fun _ => true) true n t cs = some x) : ∃ c : Nat → Int, cs = (List.range k).map (fun i => .int (kindL l i) (c i)) ∧ ∀ i, i < k → (Lit.int (kindL l i) (c i)).wf = true := by
  obtain ⟨xs, m, _, _, hlen, hxl, hf⟩ := DataW.trod_struct hu h
  rw [hc] at hlen
  rw [hsz] at hxl
  have key : ∀ i, i < k → ∃ a, cs[i]? = some (.int (kindL l i) a) ∧ (Lit.int (kindL l i) a).wf = true := by
    intro i hi
    obtain ⟨f, h1, h2, h3⟩ := fieldsOk_at hok i hi
    have := hf i f h1
    rw [h2, h3, cellsL] at this
    have hxi : xs[i]? = some xs[i] := by simp [hxl, hi]
    rw [hxi] at this
    obtain ⟨a, g1, _, g3⟩ := DataW.trod_int (undL l i) this
    refine ⟨a, ?_, g3⟩
    have : cs[i]? = ((cs.drop i).take 1)[0]? := by
      rw [List.getElem?_take_of_lt (by omega), List.getElem?_drop]; simp
    rw [this, g1]; rfl
  refine ⟨fun i => if h : i < k then Classical.choose (key i h) else 0, ?_, fun i hi => ?_⟩
  · apply List.ext_getElem?
    intro i
    by_cases hi : i < k
    · rw [(Classical.choose_spec (key i hi)).1]
      simp [hi]
    · rw [List.getElem?_eq_none (by omega), List.getElem?_eq_none (by simp; omega)]
  · simp only [dif_pos hi]
    exact (Classical.choose_spec (key i hi)).2

theorem wf_u64 {n : Int} (h : (Lit.int .u64 n).wf = true) : 0 ≤ n ∧ n < 18446744073709551616 := by
  simp [Lit.wf, IntKind.min, IntKind.max, IntKind.signed, IntKind.bits] at h
  omega

theorem wf_u32 {n : Int} (h : (Lit.int .u32 n).wf = true) : 0 ≤ n ∧ n < 4294967296 := by
  simp [Lit.wf, IntKind.min, IntKind.max, IntKind.signed, IntKind.bits] at h
  omega

set_option maxRecDepth 100000 in
theorem open_raw {r : Reach} {b0 : Nat} {v : Value} {d : DataW H} {ps : List MemPlace} (hval : Value.okWide Tryz.prog w r b0 46 v) (hd : DataW.Trod enc Tryz.prog w 0 (fun _ => true) true 46 v d ps) :
    ∃ c : Nat → Int, v = rawV c ∧ (0 ≤ c 20 ∧ c 20 < 18446744073709551616) ∧ (0 ≤ c 21 ∧ c 21 < 18446744073709551616) := by
  obtain ⟨cs, rfl, hsz⟩ := okWide_struct und46 hval
  obtain ⟨fuel, hf⟩ := hd
  obtain ⟨c, h1, h2⟩ := ints_row und46 ok46 size46 cells46 hf
  refine ⟨c, ?_, wf_u64 (h2 20 (by decide)), wf_u64 (h2 21 (by decide))⟩
  have : cs = ⟨(List.range 22).map fun i => .int (kindL [20, 21] i) (c i)⟩ := by
    apply Array.ext'
    exact h1
  rw [this]
  rfl

theorem op_cells {n : Nat} {cs : List Value} {x : DataW H × List MemPlace} (h : DataW.trod enc Tryz.prog w 0 (fun _ => true) true n 59 cs = some x) : ∃ k a b f r v t val num, takeN 9 (cs.drop 2) = some (opL k a b f r v t val num) := by
  obtain ⟨xs, m, _, _, hlen, hxl, hf⟩ := DataW.trod_struct und59 h
  rw [size59] at hxl
  rw [cells59] at hlen
  have h2 := op59
  cases hf2 : fs59.toList[2]? with
  | none => rw [hf2] at h2; cases h2
  | some f =>
    rw [hf2] at h2
    simp only [Bool.and_eq_true] at h2
    have e1 := Nat.eq_of_beq_eq_true h2.1
    have e2 := Nat.eq_of_beq_eq_true h2.2
    have := hf 2 f (by simpa using hf2)
    rw [e1, e2, cells51] at this
    have hx2 : xs[2]? = some xs[2] := by simp [hxl]
    rw [hx2] at this
    obtain ⟨c, h1, _⟩ := ints_row und51 ok51 size51 cells51 this
    refine ⟨c 0, c 1, c 2, c 3, c 4, c 5, c 6, c 7, c 8, ?_⟩
    rw [takeN_of (by rw [List.length_drop]; omega), h1]
    rfl

set_option maxRecDepth 100000 in
/-- The slice of steps. -/
theorem steps_in {v : Value} {r : Reach} {b0 : Nat} {d : DataW H} {ps : List MemPlace} (hval : Value.okWide Tryz.prog w r b0 47 v) (hd : DataW.Trod enc Tryz.prog w 0 (fun _ => true) true 47 v d ps) :
    ∃ (R : Option (NI × List Value)) (n : Nat), RowIn w R ∧ ∀ (Sg : Sig) (ι : Inj) (s : St) (m : Nat), ι m = R.map (·.1) → s.heap.get m = R.map (fun x => .cells x.2 none true) → m < s.next → ∃ z, @VR Sg ι z v ∧ StepsAt s z n := by
  rcases slice_in Tryz.underlying47 (by rw [cells59]; decide) hval hd with rfl | ⟨a, rfl⟩ | ⟨b, off, len, cap, n, rfl, hlc, hc0, hel⟩
  · exact ⟨none, 0, ⟨fun ι ni row h => by cases h⟩, fun Sg ι s m _ _ _ => ⟨.slice none 0 0, .snil 0 0, none, 0, rfl, .inl rfl⟩⟩
  · exact ⟨none, 0, ⟨fun ι ni row h => by cases h⟩, fun Sg ι s m _ _ _ => ⟨.slice (some ⟨0, 0, none⟩) 0 0, .szero _ _, _, 0, rfl, .inl rfl⟩⟩
  · rw [cells59] at hel
    obtain ⟨cs0, y0, g1, g2, _⟩ := hel 0 hc0
    have hcc : cs0[0]? = some cs0[0] := by simp
    obtain ⟨c, e, fr, hb, hco⟩ := cell_heap (g2 0 _ hcc)
    have hoff : off ≤ c.size := by have := (Array.getElem?_eq_some_iff.1 hco).1; omega
    have hel' : ∀ i, i < len → ∃ cs : List Value, cs.length = 31 ∧ (∀ v ∈ cs, isCell v = true) ∧ ∀ (j : Nat) u, cs[j]? = some u → w.cell? ⟨b, off + i * 31 + j, none⟩ = some u := by
      intro i hi
      obtain ⟨cs, y, q1, q2, q3⟩ := hel i (by omega)
      exact ⟨cs, q1, trod_isCell kidsT n 59 cs y (by show 59 < _; rw [sizeT]; decide) q3, q2⟩
    obtain ⟨hR, hpl⟩ := row_in hb (by decide : 0 < 31) hoff hel'
    refine ⟨_, len, hR, fun Sg ι s m hι hg hlt => ⟨.slice (some ⟨m, 0, none⟩) len cap, ?_, some ⟨m, 0, none⟩, cap, rfl, ?_⟩⟩
    · have := @VR.slice Sg ι m 0 len cap cap _ hι (.inl rfl) (Nat.le_refl _)
      simpa using this
    · refine .inr ⟨m, _, rfl, hlt, hg, by rw [List.length_map, hpl]; exact Nat.le_refl _, fun i hi => ?_⟩
      obtain ⟨cs, y, q1, q2, q3⟩ := hel i (by omega)
      obtain ⟨k, a, b', f, r', v, t, val, num, hop⟩ := op_cells q3
      refine ⟨k, a, b', f, r', v, t, val, num, ?_⟩
      have hi31 : i * 31 + 31 ≤ len * 31 := by omega
      have hcell : ∀ j, j < 31 → (piece c off (len * 31))[i * 31 + j]? = cs[j]? := by
        intro j hj
        have hcj : cs[j]? = some cs[j] := by simp [q1, hj]
        rw [hcj]
        exact piece_at hb (by omega) (by have := q2 j _ hcj; rwa [Nat.add_assoc] at this)
      have e1 : ((piece c off (len * 31)).map shC).drop (i * 31 + 2) = ((piece c off (len * 31)).drop (i * 31 + 2)).map shC := by rw [List.map_drop]
      rw [e1]
      obtain ⟨t1, t2⟩ := takeN_eq hop
      rw [takeN_of (by rw [List.length_map, List.length_drop, hpl]; omega)]
      congr 1
      rw [← List.map_take]
      have e2 : ((piece c off (len * 31)).drop (i * 31 + 2)).take 9 = (cs.drop 2).take 9 := by
        apply List.ext_getElem?
        intro j
        by_cases hj : j < 9
        · rw [List.getElem?_take_of_lt hj, List.getElem?_take_of_lt hj, List.getElem?_drop, List.getElem?_drop, ← hcell (2 + j) (by omega)]
          congr 1; omega
        · rw [List.getElem?_eq_none (by rw [List.length_take]; omega), List.getElem?_eq_none (by rw [List.length_take]; omega)]
      rw [e2, ← t1]
      rfl

set_option maxRecDepth 100000 in
/-- The slice of numbers. -/
theorem nums_in {v : Value} {r : Reach} {b0 : Nat} {d : DataW H} {ps : List MemPlace} (hval : Value.okWide Tryz.prog w r b0 36 v) (hd : DataW.Trod enc Tryz.prog w 0 (fun _ => true) true 36 v d ps) :
    ∃ (R : Option (NI × List Value)) (xs : List Int), RowIn w R ∧ ∀ (Sg : Sig) (ι : Inj) (s : St) (m : Nat), ι m = R.map (·.1) → s.heap.get m = R.map (fun x => .cells x.2 none true) → m < s.next → ∃ z, @VR Sg ι z v ∧ NumsAt s z xs := by
  rcases slice_in Tryz.underlying36 (by rw [cells22]; decide) hval hd with rfl | ⟨a, rfl⟩ | ⟨b, off, len, cap, n, rfl, hlc, hc0, hel⟩
  · exact ⟨none, [], ⟨fun ι ni row h => by cases h⟩, fun Sg ι s m _ _ _ => ⟨.slice none 0 0, .snil 0 0, none, 0, rfl, (fun x hx => by cases hx), .inl rfl⟩⟩
  · exact ⟨none, [], ⟨fun ι ni row h => by cases h⟩, fun Sg ι s m _ _ _ => ⟨.slice (some ⟨0, 0, none⟩) 0 0, .szero _ _, _, 0, rfl, (fun x hx => by cases hx), .inl rfl⟩⟩
  · rw [cells22] at hel
    have hint : ∀ i, i < cap → ∃ z : Int, w.cell? ⟨b, off + i, none⟩ = some (.int .u64 z) ∧ 0 ≤ z := by
      intro i hi
      obtain ⟨cs, y, g1, g2, g3⟩ := hel i hi
      obtain ⟨z, rfl, _, g5⟩ := DataW.trod_int Tryz.underlying22 g3
      refine ⟨z, ?_, (wf_u64 g5).1⟩
      have := g2 0 _ rfl
      simpa using this
    obtain ⟨z0, hz0, _⟩ := hint 0 hc0
    obtain ⟨c, e, fr, hb, hco⟩ := cell_heap hz0
    have hoff : off ≤ c.size := by have := (Array.getElem?_eq_some_iff.1 hco).1; omega
    have hel' : ∀ i, i < len → ∃ cs : List Value, cs.length = 1 ∧ (∀ v ∈ cs, isCell v = true) ∧ ∀ (j : Nat) u, cs[j]? = some u → w.cell? ⟨b, off + i * 1 + j, none⟩ = some u := by
      intro i hi
      obtain ⟨z, hz, _⟩ := hint i (by omega)
      refine ⟨[.int .u64 z], rfl, fun v hv => by rw [List.mem_singleton.1 hv]; rfl, fun j u hj => ?_⟩
      cases j with
      | zero => simp at hj; subst hj; simpa using hz
      | succ j => simp at hj
    obtain ⟨hR, hpl⟩ := row_in hb (by decide : 0 < 1) hoff hel'
    have hmem : ∀ v ∈ piece c off (len * 1), ∃ z : Int, v = .int .u64 z ∧ 0 ≤ z := by
      intro v hv
      obtain ⟨m, hm⟩ := List.mem_iff_getElem?.1 hv
      have hlt : m < len * 1 := by rw [← hpl]; exact (List.getElem?_eq_some_iff.1 hm).1
      obtain ⟨z, hz, h0⟩ := hint m (by omega)
      have := piece_at hb hlt hz
      rw [this] at hm
      cases hm
      exact ⟨z, rfl, h0⟩
    have hrow : (piece c off (len * 1)).map shC = ((piece c off (len * 1)).map fun v => match v with | .int _ n => n | _ => (0 : Int)).map (.int .u64) := by
      rw [List.map_map]
      apply List.map_congr_left
      intro v hv
      obtain ⟨z, rfl, _⟩ := hmem v hv
      rfl
    have hxl : ((piece c off (len * 1)).map fun v => match v with | .int _ n => n | _ => (0 : Int)).length = len := by rw [List.length_map, hpl]; omega
    have hx0 : ∀ x ∈ (piece c off (len * 1)).map (fun v => match v with | .int _ n => n | _ => (0 : Int)), 0 ≤ x := by
      intro x hx
      obtain ⟨v, hv, rfl⟩ := List.mem_map.1 hx
      obtain ⟨z, rfl, h0⟩ := hmem v hv
      exact h0
    rw [hrow] at hR
    generalize (piece c off (len * 1)).map (fun v => match v with | .int _ n => n | _ => (0 : Int)) = xs at hR hxl hx0
    refine ⟨_, xs, hR, fun Sg ι s m hι hg hlt => ⟨.slice (some ⟨m, 0, none⟩) len cap, ?_, some ⟨m, 0, none⟩, cap, by rw [hxl], hx0, .inr ⟨m, rfl, hlt, hg⟩⟩⟩
    have := @VR.slice Sg ι m 0 len cap cap _ hι (.inl rfl) (Nat.le_refl _)
    simpa using this

end

/-! ### the call -/
def heap0 (R1 R2 : Option (NI × List Value)) : Tr AObj :=
  match R2 with
  | some x => (match R1 with
    | some y => Tr.leaf.set 0 (AObj.cells y.2 none true)
    | none => .leaf).set 1 (AObj.cells x.2 none true)
  | none => match R1 with
    | some y => Tr.leaf.set 0 (AObj.cells y.2 none true)
    | none => .leaf

theorem heap0_get (R1 R2 : Option (NI × List Value)) (m : Nat) : (heap0 R1 R2).get m = if m = 1 then R2.map (fun x => .cells x.2 none true) else if m = 0 then R1.map (fun x => .cells x.2 none true) else none := by
  unfold heap0
  cases R1 <;> cases R2 <;> simp only [Tr.get_set, Tr.get_leaf, Option.map_some, Option.map_none]
  · split <;> (try split) <;> rfl
  · split
    · rfl
    · split <;> rfl
  · by_cases h1 : m = 1
    · subst h1; simp
    · rw [if_neg h1]

def inj0 (R1 R2 : Option (NI × List Value)) : Inj := fun m => if m = 1 then R2.map (·.1) else if m = 0 then R1.map (·.1) else none

theorem start_SR [Sg : Sig] {w : World} {R1 R2 : Option (NI × List Value)} (h1 : RowIn w R1) (h2 : RowIn w R2) : SR (inj0 R1 R2) ⟨heap0 R1 R2, 2⟩ w := by
  have hro : ∀ m o, (heap0 R1 R2).get m = some o → o.wr = false := by
    intro m o h
    rw [heap0_get] at h
    split at h
    · cases R2 <;> cases h; rfl
    · split at h
      · cases R1 <;> cases h; rfl
      · cases h
  refine ⟨fun m o h => ?_, fun n m o p ni mi hn hm hw => ?_, fun m ni h => ?_⟩
  · rw [heap0_get] at h
    by_cases e1 : m = 1
    · subst e1
      rw [if_pos rfl] at h
      cases hR : R2 with
      | none => rw [hR] at h; cases h
      | some x =>
        obtain ⟨ni, row⟩ := x
        rw [hR] at h; cases h
        exact ⟨ni, by show (if (1 : Nat) = 1 then _ else _) = _; rw [if_pos rfl]; simp [hR], h2.or _ ni row hR⟩
    · rw [if_neg e1] at h
      by_cases e0 : m = 0
      · subst e0
        rw [if_pos rfl] at h
        cases hR : R1 with
        | none => rw [hR] at h; cases h
        | some x =>
          obtain ⟨ni, row⟩ := x
          rw [hR] at h; cases h
          exact ⟨ni, by show (if (0 : Nat) = 1 then _ else if (0 : Nat) = 0 then _ else _) = _; rw [if_neg (by decide), if_pos rfl]; simp [hR], h1.or _ ni row hR⟩
      · rw [if_neg e0] at h; cases h
  · rw [hro n o hn, hro m p hm] at hw
    rcases hw with hw | hw <;> cases hw
  · unfold inj0 at h
    show m < 2
    by_cases e1 : m = 1
    · omega
    · by_cases e0 : m = 0
      · omega
      · rw [if_neg e1, if_neg e0] at h; cases h

set_option maxRecDepth 100000 in
/-- What was there is as it was. -/
theorem ticks_all {H : Type} {enc : TypeId × Value → H} {W : World} {v0 v1 v2 v3 : Value} {d0 d1 d2 d3 : DataW H} {p0 p1 p2 p3 : List MemPlace} {b0 : Nat}
    (k0 : Value.okWide Tryz.prog W .any b0 46 v0) (k1 : Value.okWide Tryz.prog W .any b0 47 v1) (k2 : Value.okWide Tryz.prog W .any b0 36 v2) (k3 : Value.okWide Tryz.prog W .any b0 48 v3)
    (h0 : DataW.Trod enc Tryz.prog W 0 (fun _ => true) true 46 v0 d0 p0) (h1 : DataW.Trod enc Tryz.prog W 0 (fun _ => true) true 47 v1 d1 p1) (h2 : DataW.Trod enc Tryz.prog W 0 (fun _ => true) true 36 v2 d2 p2) (h3 : DataW.Trod enc Tryz.prog W 0 (fun _ => true) true 48 v3 d3 p3) :
    Calls Tryz.prog 4 #[v0, v1, v2, v3] W fun e W' => e = .returned (.bool true) ∧ W'.os = W.os ∧ W'.output = W.output ∧ (∀ k, k < W.heap.size → W'.heap[k]? = W.heap[k]?) ∧ ∀ a, W'.frozen? a = W.frozen? a := by
  letI Sg : Sig := ⟨fun _ => .int .i64 0, fun _ => rfl⟩
  obtain ⟨c, rfl, c20, c21⟩ := open_raw k0 h0
  obtain ⟨R1, n, r1, a1⟩ := steps_in k1 h1
  obtain ⟨R2, xs, r2, a2⟩ := nums_in k2 h2
  obtain ⟨back, rfl, _, _, wb⟩ := open_int Tryz.underlying48 k3 h3
  have hs := start_SR r1 r2
  obtain ⟨zL, vL, sL⟩ := a1 Sg (inj0 R1 R2) ⟨heap0 R1 R2, 2⟩ 0 rfl (by rw [heap0_get]; rfl) (by show 0 < 2; decide)
  obtain ⟨zB, vB, sB⟩ := a2 Sg (inj0 R1 R2) ⟨heap0 R1 R2, 2⟩ 1 rfl (by rw [heap0_get]; rfl) (by show 1 < 2; decide)
  obtain ⟨K, v, s', hc, hv⟩ := law_ok ponly (Q := fun v _ => v = .bool true) c20 c21 (wf_u32 wb) sL sB (fun _ => rfl)
  subst hv
  have hl : LR (inj0 R1 R2) [rawV c, zL, zB, .int .u32 back] [rawV c, v1, v2, .int .u32 back] :=
    .cons _ _ _ _ (plainV_VR rfl) (.cons _ _ _ _ vL (.cons _ _ _ _ vB (.cons _ _ _ _ (.int _ _) .nil)))
  have hd := calls_ok goodT K 4 _ _ _ _ hc _ W _ hs hl
  refine (hd.calls Tryz.call4).mono ?_
  rintro e W' ⟨ι', v', rfl, hvr, hp⟩
  cases hvr
  refine ⟨rfl, hp.calm.os, hp.calm.output, fun k hk => hp.frame k hk fun m o ni hm hw _ => ?_, hp.calm.froz⟩
  exfalso
  have hm : (heap0 R1 R2).get m = some o := hm
  rw [heap0_get] at hm
  split at hm
  · cases R2 <;> cases hm; cases hw
  · split at hm
    · cases R1 <;> cases hm; cases hw
    · cases hm

end Go.Sh
