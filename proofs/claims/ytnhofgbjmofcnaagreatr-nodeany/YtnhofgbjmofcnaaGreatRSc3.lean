/-
  NodeAny: the statement.
-/
import Derived.Test.YtnhofgbjmofcnaaGreatRSc2
import Derived.WalkKit
import Derived.ProofKit
import Derived.OpenShut
namespace Go.Proofs.YtnhofgbjmofcnaaGreatR.nodeAny
open Go.ChangeShapes Go.WideShapes Go.ChangeAt Go.RowKit Go.Sh
set_option linter.unusedVariables false

theorem own : ownKnob Tryz.prog.godebug = none := by kernel_rfl

def isU (i : Nat) : Bool := memN i [11, 12, 13, 14, 15, 16, 20, 21]
def kindAt (i : Nat) : IntKind := cond (isU i) .u64 .i64
def typeAt (i : Nat) : Nat := cond (isU i) 22 3

noncomputable def fs24 : Array Field := match Tryz.t23.desc with
  | .struct fs => fs
  | _ => #[]

theorem und24 : Tryz.prog.underlying 24 = some (.struct fs24) := Tryz.underlying24

theorem fs24_ok : (List.range 22).all (fun i => match fs24.toList[i]? with
    | some f => Nat.beq f.offset i && Nat.beq f.type (typeAt i)
    | none => false) = true := by kernel_rfl

theorem fs24_size : fs24.size = 22 := by kernel_rfl

theorem fs24_at (i : Nat) (hi : i < 22) : ∃ f, fs24[i]? = some f ∧ f.offset = i ∧ f.type = typeAt i := by
  have := List.all_eq_true.1 fs24_ok i (List.mem_range.2 hi)
  cases hf : fs24.toList[i]? with
  | none => rw [hf] at this; cases this
  | some f =>
    rw [hf] at this
    simp only [Bool.and_eq_true] at this
    exact ⟨f, by simpa using hf, Nat.eq_of_beq_eq_true this.1, Nat.eq_of_beq_eq_true this.2⟩

theorem und_at (i : Nat) : Tryz.prog.underlying (typeAt i) = some (.int (kindAt i)) := by
  unfold typeAt kindAt
  cases isU i with
  | true => exact Tryz.underlying22
  | false => exact Tryz.underlying3

theorem cells_at (i : Nat) : Tryz.prog.cellsOf (typeAt i) = 1 := by
  unfold typeAt
  cases isU i with
  | true => kernel_rfl
  | false => kernel_rfl

theorem cells24 : Tryz.prog.cellsOf 24 = 22 := by kernel_rfl

section
variable {H : Type} {enc : TypeId × Value → H} {P : Program}

theorem trodInt_any {t : TypeId} {k : IntKind} (ht : P.underlying t = some (.int k)) {W W' : World} {b b' : Nat} {sp sp' : Nat → Bool} {hl hl' : Bool} (n : Nat) (cs : List Value) :
    DataW.trod enc P W b sp hl n t cs = DataW.trod enc P W' b' sp' hl' n t cs := by
  cases n with
  | zero => simp [DataW.trod]
  | succ n =>
    unfold DataW.trod
    rw [ht]
    split <;> simp_all

theorem mapM_get {α β : Type} {g : α → Option β} : ∀ {l : List α} {xs : List β}, xs.length = l.length → (∀ (i : Nat) (a : α), l[i]? = some a → g a = xs[i]?) → l.mapM g = some xs
  | [], [], _, _ => rfl
  | [], _ :: _, h, _ => by simp at h
  | _ :: _, [], h, _ => by simp at h
  | a :: l, x :: xs, h, hg => by
    rw [List.mapM_cons, hg 0 a rfl]
    have := mapM_get (l := l) (xs := xs) (by simpa using h) (fun i a hi => by simpa using hg (i + 1) a (by simpa using hi))
    simp [this]

set_option maxRecDepth 100000 in
theorem open_cfg {W : World} {r : Reach} {base : Nat} {v : Value} {d : DataW H} {b : Nat} {sp : Nat → Bool} {hl : Bool} {ps : List MemPlace} (hval : Value.okWide Tryz.prog W r base 24 v) (hd : DataW.Trod enc Tryz.prog W b sp hl 24 v d ps) :
    ∃ c : Nat → Int, v = .agg ⟨(List.range 22).map fun i => .int (kindAt i) (c i)⟩ ∧ ps = [] ∧ 0 ≤ c 12 ∧ ∀ W' b' sp' hl', DataW.Trod enc Tryz.prog W' b' sp' hl' 24 v d [] := by
  obtain ⟨cs, rfl, hsz⟩ := okWide_struct und24 hval
  obtain ⟨fuel, hf⟩ := hd
  obtain ⟨xs, n, rfl, hx, hlen, hxl, hfs⟩ := DataW.trod_struct und24 hf
  rw [fs24_size] at hxl
  rw [cells24] at hsz
  have key : ∀ i, i < 22 → ∃ a, cs.toList[i]? = some (.int (kindAt i) a) ∧ xs[i]? = some (.lit (.int (kindAt i) a), []) ∧ (Lit.int (kindAt i) a).wf = true := by
    intro i hi
    obtain ⟨f, h1, h2, h3⟩ := fs24_at i hi
    have := hfs i f h1
    rw [h2, h3, cells_at] at this
    have hxi : xs[i]? = some xs[i] := by simp [hxl, hi]
    rw [hxi] at this
    obtain ⟨a, g1, g2, g3⟩ := DataW.trod_int (und_at i) this
    refine ⟨a, ?_, by rw [hxi, g2], g3⟩
    have e : (Value.agg cs).cells.toList = cs.toList := rfl
    rw [e] at g1
    have : cs.toList[i]? = ((cs.toList.drop i).take 1)[0]? := by
      rw [List.getElem?_take_of_lt (by omega), List.getElem?_drop]; simp
    rw [this, g1]; rfl
  have hc : ∃ c : Nat → Int, ∀ i, i < 22 → cs.toList[i]? = some (.int (kindAt i) (c i)) ∧ xs[i]? = some (.lit (.int (kindAt i) (c i)), []) ∧ (Lit.int (kindAt i) (c i)).wf = true := by
    refine ⟨fun i => if h : i < 22 then Classical.choose (key i h) else 0, fun i hi => ?_⟩
    simp only [dif_pos hi]
    exact Classical.choose_spec (key i hi)
  obtain ⟨c, hc⟩ := hc
  have hps : xs.flatMap (·.2) = [] := by
    rw [List.flatMap_eq_nil_iff]
    intro y hy
    obtain ⟨i, hi⟩ := List.mem_iff_getElem?.1 hy
    have hlt : i < 22 := by rw [← hxl]; exact (List.getElem?_eq_some_iff.1 hi).1
    have := (hc i hlt).2.1
    rw [hi] at this; cases this; rfl
  simp only [Prod.mk.injEq] at hx
  obtain ⟨hd1, hp1⟩ := hx
  refine ⟨c, ?_, by rw [hp1, hps], ?_, fun W' b' sp' hl' => ⟨n + 1, ?_⟩⟩
  · congr 1
    apply Array.ext'
    apply List.ext_getElem?
    intro i
    by_cases hi : i < 22
    · rw [(hc i hi).1]; simp [hi]
    · rw [List.getElem?_eq_none (by simp [hsz]; omega), List.getElem?_eq_none (by simp; omega)]
  · have := (hc 12 (by omega)).2.2
    have e : kindAt 12 = .u64 := rfl
    rw [e] at this
    simp [Lit.wf, IntKind.min, IntKind.signed] at this
    omega
  · have := trod_struct_mk (enc := enc) (w := W') (base := b') (spare := sp') (held := hl') (n := n) (xs := xs) und24 (cs := cs.toList) (by simpa [cells24] using hsz) (mapM_get (by rw [hxl]; simpa using fs24_size.symm) (fun i f hi => by
      have hlt : i < 22 := by have := (List.getElem?_eq_some_iff.1 hi).1; simpa [fs24_size] using this
      obtain ⟨f', h1, h2, h3⟩ := fs24_at i hlt
      have hff : f' = f := by
        have : fs24[i]? = some f := by simpa using hi
        rw [h1] at this; cases this; rfl
      subst hff
      rw [← hfs i f' h1, h3]
      exact trodInt_any (und_at i) n _))
    rw [hd1]
    rw [← hps]
    exact this
end

set_option maxRecDepth 100000 in
theorem lifted (os : Os) (started : os.Started) (H : Type) (enc : TypeId × Value → H) :
    ReturnsInHanded {} Tryz.checked os 3 .any (Rows.nodeAnySpec.pre6 enc Tryz.prog Tryz.f3 Rows.nodeAnyRow.domain false) (Rows.nodeAnySpec.post enc Tryz.prog Tryz.f3 false true false false) := by
  refine returnsInHanded_of_change (C := Tryz.checked) own started (by kernel_rfl) Tryz.func3
    (ChangeSpec.witness6 (enc := enc) (C := Tryz.checked) false ⟨#[], #[.agg ⟨(List.range 22).map fun i => .int (kindAt i) 0⟩, .int .i64 0], []⟩ 8 (by kernel_rfl) (by kernel_rfl) (by kernel_rfl) (by kernel_rfl)) ?_
  intro W base args ds gs before hval0 hW hcnd _
  have hval : ∀ (j : Nat) t v, Tryz.f3.params[j]? = some t → args[j]? = some v → Value.okWide Tryz.prog W .any base t v := hval0
  have hW' := hW
  obtain ⟨p, q, hA0, hV, rfl, hfz, hnd⟩ := hW
  have hA : DataW.TrodAll enc Tryz.prog W 0 (fun _ => true) true Tryz.f3.params.toList args.toList ds p := hA0
  rw [Tryz.params3] at hA hval
  obtain ⟨v0, v1, d0, d1, p0, p1, rfl, rfl, rfl, h0, h1⟩ := trodAll_two hA
  obtain ⟨rfl, rfl⟩ := trodVars_none hV
  obtain ⟨c, rfl, rfl, hwf, hshut⟩ := open_cfg (hval 0 24 v0 rfl rfl) h0
  obtain ⟨n, rfl, rfl, rfl, wn⟩ := open_int Tryz.underlying3 (hval 1 3 v1 rfl rfl) h1
  clear hA0 hval0
  simp only [List.append_nil] at hW'
  have walk := any_all ⟨c, n⟩ hwf W
  refine walk.mono fun e W' ⟨he, hg⟩ => ?_
  subst he
  exact ⟨_, rfl, post_of_same (pa := []) (pv := []) hW' (fun _ _ _ => trodAll_mk1 (shut_bool Tryz.underlying4 _)) (fun sp _ => trodAll_mk2 (hshut _ _ _ _) (shut_int Tryz.underlying3 wn)) (fun _ _ => rfl) rfl
    (hg.frame _) hg.2.1 (ok_one (by kernel_rfl) rfl (okWide_bool_mk Tryz.underlying4 _))⟩

theorem proved : Rows.NodeAnySaid :=
  OpenClaim.holds_of_wide 3 Tryz.f3 rfl rfl rfl rfl rfl rfl rfl ⟨rfl, rfl, rfl, rfl, rfl⟩ rfl rfl rfl rfl rfl (by kernel_rfl) Tryz.func3 (by kernel_rfl)
    (of_decide_eq_true (by kernel_rfl)) (by unfold Func.isWrapper; first | (rw [if_pos (by decide +kernel)]; kernel_rfl) | (rw [if_neg (by decide +kernel)]; exact ⟨rfl, rfl⟩))
    (fun os started H enc _ => lifted os started H enc)
#print axioms proved
end Go.Proofs.YtnhofgbjmofcnaaGreatR.nodeAny
