/-
  NodeTicks: for every raw config, every row of steps, every row of numbers and every number of ticks back, the law answers true and each argument reads behind the call as it did before. No condition. NodeTicks: the statement.
-/
import Derived.Test.YtnhofgbjmofcnaaGreatRZb
import Derived.WalkKit
import Derived.ProofKit
import Derived.OpenShut

namespace Go.Proofs.YtnhofgbjmofcnaaGreatR.nodeTicks
open Go.ChangeShapes Go.WideShapes Go.ChangeAt Go.RowKit Go.Sh
set_option linter.unusedVariables false

theorem own : ownKnob Tryz.prog.godebug = none := by kernel_rfl

theorem same_place {W W' : World} (hB : ∀ k, k < W.heap.size → W'.heap[k]? = W.heap[k]?) {p : MemPlace} (hp : p.block < W.heap.size) : W.sameAt W' p := by
  cases p with
  | cell b off => exact World.cell?_of_block (w := W) (hB b hp)
  | map b => exact hB b hp

/-- What reads in a world reads in another one in which every block is as it was. -/
theorem trodAll_up {H : Type} {enc : TypeId × Value → H} {P : Program} {W W' : World} {sp : Nat → Bool} {hd : Bool} (hB : ∀ k, k < W.heap.size → W'.heap[k]? = W.heap[k]?) : ∀ {ts : List TypeId} {vs : List Value} {ds : List (DataW H)} {ps : List MemPlace},
    DataW.TrodAll enc P W 0 sp hd ts vs ds ps → DataW.TrodAll enc P W' 0 sp hd ts vs ds ps
  | [], [], [], _, h => h
  | _ :: _, _ :: _, _ :: _, _, ⟨p, q, ⟨n, hn⟩, h2, e⟩ => ⟨p, q, ⟨n, DataW.trod_carry n _ _ _ hn (fun x hx => same_place hB (DataW.trod_lt n _ _ _ hn x hx))⟩, trodAll_up hB h2, e⟩

theorem kept_all {W W' : World} (h1 : W'.os = W.os) (h2 : W'.output = W.output) (hB : ∀ k, k < W.heap.size → W'.heap[k]? = W.heap[k]?) (may : MemPlace → Prop) : W.keptBut W' may := by
  refine ⟨h1, h2, fun i hi => ?_⟩
  rw [hB i hi]
  cases hx : W.heap[i]? with
  | none => rfl
  | some o => cases o <;> first | rfl | exact ⟨rfl, rfl, rfl, fun _ _ => .inr rfl⟩ | exact ⟨rfl, rfl, rfl, fun _ _ => rfl⟩ | exact .inr ⟨rfl, rfl⟩ | simp

set_option maxRecDepth 100000 in
theorem lifted (os : Os) (started : os.Started) (H : Type) (enc : TypeId × Value → H) :
    ReturnsInHanded {} Tryz.checked os 4 .any (Rows.nodeTicksSpec.pre6 enc Tryz.prog Tryz.f4 Rows.nodeTicksRow.domain false) (Rows.nodeTicksSpec.post enc Tryz.prog Tryz.f4 false true false false) := by
  refine returnsInHanded_of_change (C := Tryz.checked) own started (by kernel_rfl) Tryz.func4
    (ChangeSpec.witness6 (enc := enc) (C := Tryz.checked) false ⟨#[], #[.agg ⟨(List.range 22).map fun i => .int (kindL [20, 21] i) 0⟩, .slice none 0 0, .slice none 0 0, .int .u32 0], []⟩ 8 (by kernel_rfl) (by kernel_rfl) (by kernel_rfl) (by kernel_rfl)) ?_
  intro W base args ds gs before hval0 hW hcnd _
  have hval : ∀ (j : Nat) t v, Tryz.f4.params[j]? = some t → args[j]? = some v → Value.okWide Tryz.prog W .any base t v := hval0
  have hW' := hW
  obtain ⟨p, q, hA0, hV, rfl, hfz, hnd⟩ := hW
  have hA : DataW.TrodAll enc Tryz.prog W 0 (fun _ => true) true Tryz.f4.params.toList args.toList ds p := hA0
  have hAk := hA
  rw [Tryz.params4] at hA hval
  obtain ⟨v0, v1, v2, v3, d0, d1, d2, d3, p0, p1, p2, p3, rfl, rfl, rfl, h0, h1, h2, h3⟩ := trodAll_four hA
  obtain ⟨rfl, rfl⟩ := trodVars_none hV
  clear hA0 hval0
  have walk := ticks_all (hval 0 46 v0 rfl rfl) (hval 1 47 v1 rfl rfl) (hval 2 36 v2 rfl rfl) (hval 3 48 v3 rfl rfl) h0 h1 h2 h3
  refine walk.mono fun e W' ⟨he, h4, h5, hB, hz⟩ => ?_
  subst he
  exact ⟨_, rfl, post_of_same (pv := []) hW' (fun _ _ _ => trodAll_mk1 (shut_bool Tryz.underlying4 _))
    (fun sp hsp => trodAll_up hB (DataW.TrodAll.respare kidsT fullT (by rw [Tryz.params4, sizeT]; decide) hAk (fun x hx => hsp x (by simpa using hx)))) (fun _ _ => rfl) (by simp)
    (kept_all h4 h5 hB _) hz (ok_one (by kernel_rfl) rfl (okWide_bool_mk Tryz.underlying4 _))⟩

theorem proved : Rows.NodeTicksSaid :=
  OpenClaim.holds_of_wide 4 Tryz.f4 rfl rfl rfl rfl rfl rfl rfl ⟨rfl, rfl, rfl, rfl, rfl⟩ rfl rfl rfl rfl rfl (by kernel_rfl) Tryz.func4 (by kernel_rfl)
    (of_decide_eq_true (by kernel_rfl)) (by unfold Func.isWrapper; first | (rw [if_pos (by decide +kernel)]; kernel_rfl) | (rw [if_neg (by decide +kernel)]; exact ⟨rfl, rfl⟩))
    (fun os started H enc _ => lifted os started H enc)
#print axioms proved
end Go.Proofs.YtnhofgbjmofcnaaGreatR.nodeTicks
