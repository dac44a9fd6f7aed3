/-
  NodeAny: a config that may not be. PRINTED BY PROGRAM (wip/tools/sc2.py).
-/
import Derived.Test.YtnhofgbjmofcnaaGreatRSb2
import Derived.Test.YtnhofgbjmofcnaaGreatRSb3
import Derived.Test.YtnhofgbjmofcnaaGreatRSb4
import Derived.Test.YtnhofgbjmofcnaaGreatRSb5
import Derived.Test.YtnhofgbjmofcnaaGreatRSc1
namespace Go.Sh
open Go
open Go.Proofs

/-- How a test comes out. -/
def Tst.truth [Sg : Sig] : Tst → Bool
  | .inn i m => match Sg.sym i with
    | .int _ a => decide (1 ≤ a) && decide (a ≤ m)
    | _ => false
  | .cmp op u v => match realF u, realF v with
    | .int k a, .int _ b => match aint op k a b with
      | some (.bool r) => r
      | _ => false
    | _, _ => false

def firstF [Sg : Sig] : List Tst → Nat
  | [] => 0
  | t :: r => cond t.truth (firstF r + 1) 0

theorem firstF_le [Sg : Sig] : ∀ (l : List Tst), firstF l ≤ l.length
  | [] => Nat.le_refl _
  | t :: r => by
    simp only [firstF]
    cases t.truth with
    | true => have := firstF_le r; simp; omega
    | false => simp

theorem firstF_all [Sg : Sig] : ∀ (l : List Tst), firstF l = l.length → ∀ t ∈ l, t.truth = true
  | [], _, t, h => by cases h
  | t :: r, h, u, hu => by
    simp only [firstF] at h
    cases ht : t.truth with
    | false => rw [ht] at h; simp at h
    | true =>
      rw [ht] at h; simp at h
      rcases List.mem_cons.1 hu with rfl | hu
      · exact ht
      · exact firstF_all r h u hu

theorem knownT_truth [Sg : Sig] : ∀ (l : List Tst), ∀ p ∈ knownT l (firstF l), p.1 ∈ l ∧ p.2 = p.1.truth
  | [], p, h => by simp [knownT] at h
  | t :: r, p, h => by
    simp only [firstF] at h
    cases ht : t.truth with
    | false =>
      rw [ht] at h; simp only [cond_false, knownT, List.mem_singleton] at h
      subst h
      exact ⟨by simp, ht.symm⟩
    | true =>
      rw [ht] at h; simp only [cond_true, knownT, List.mem_cons] at h
      rcases h with rfl | h
      · exact ⟨by simp, ht.symm⟩
      · obtain ⟨h1, h2⟩ := knownT_truth r p h
        exact ⟨by simp [h1], h2⟩

def inPairs : List (Nat × Int) := [(0, 64), (1, 4), (2, 8), (3, 4096), (4, 64), (5, 64), (6, 16), (7, 8), (8, 64), (9, 256), (10, 16), (17, 38), (19, 64)]

def TstOk [Sg : Sig] : Tst → Prop
  | .inn i m => (i, m) ∈ inPairs ∧ ∃ a, Sg.sym i = .int .i64 a
  | .cmp op u v => ∃ k a b r, realF u = .int k a ∧ realF v = .int k b ∧ aint op k a b = some (.bool r) ∧ op ≠ .shl ∧ op ≠ .shr ∧ flatV u = true ∧ flatV v = true

theorem cmps_ok [Sg : Sig] (ha : AllP EntOk arith) : ∀ {l : List (Tst × Bool)}, (∀ p ∈ l, TstOk p.1 ∧ p.2 = p.1.truth) → AllP EntOk (cmps l)
  | [], _ => ha
  | (.inn i m, b) :: r, h => cmps_ok ha (l := r) fun p hp => h p (by simp [hp])
  | (.cmp op u v, b) :: r, h => by
    obtain ⟨⟨k, a, b', q, h1, h2, h3, h4, h5, h6, h7⟩, h8⟩ := h (.cmp op u v, b) (by simp)
    refine ⟨⟨k, a, b', h1, h2, ?_, h4, h5, h6, h7, rfl⟩, cmps_ok ha (l := r) fun p hp => h p (by simp [hp])⟩
    simp only [Tst.truth, h1, h2, h3] at h8
    subst h8
    exact h3

/-! ### in -/
def inTab (i : Nat) (m : Int) : Nat → List Ent
  | 0 => [(.geq, ySym i, .int .i64 1, .bool true), (.leq, ySym i, .int .i64 m, .bool true)]
  | 1 => [(.geq, ySym i, .int .i64 1, .bool false)]
  | _ => [(.geq, ySym i, .int .i64 1, .bool true), (.leq, ySym i, .int .i64 m, .bool false)]

noncomputable def envIn (i : Nat) (m : Int) (c : Nat) : Env := seatEnv noPrim (orcOf (inTab i m c)) noRoom

noncomputable def inOk (p : Nat × Int) (c : Nat) (b : Bool) : Bool := keptOk noAl (kIn b) (calls (envIn p.1 p.2 c) 60 25 [ySym p.1, .int .i64 p.2] ⟨.leaf, 0⟩)

theorem in_run : inPairs.all (fun p => inOk p 0 true && inOk p 1 false && inOk p 2 false) = true := by kernel_rfl

theorem in_prim [Sg : Sig] {i : Nat} {m a : Int} (hm : (i, m) ∈ inPairs) (hs : Sg.sym i = .int .i64 a) : PrimOk Tryz.prog 25 ((kIn (Tst.inn i m).truth).prim [ySym i, .int .i64 m]) := by
  have hr := List.all_eq_true.1 in_run (i, m) hm
  simp only [Bool.and_eq_true] at hr
  have e1 : realF (ySym i) = .int .i64 a := hs
  have go : ∀ (c : Nat) (b : Bool), AllP EntOk (inTab i m c) → inOk (i, m) c b = true → PrimOk Tryz.prog 25 ((kIn b).prim [ySym i, .int .i64 m]) := by
    intro c b h1 h2
    exact fresh_prim (argsN := [ySym i, .int .i64 m]) (calls_ok (good_of noPrim_ok h1 noRoom_ok) 60) noAl_ok h2 rfl rfl rfl
  have ht : (Tst.inn i m).truth = (decide (1 ≤ a) && decide (a ≤ m)) := by simp only [Tst.truth, hs]
  rw [ht]
  by_cases h1 : 1 ≤ a
  · by_cases h2 : a ≤ m
    · have : (decide (1 ≤ a) && decide (a ≤ m)) = true := by simp [h1, h2]
      rw [this]
      refine go 0 true ⟨⟨.i64, a, 1, e1, rfl, by simp [aint, realF]; omega, by simp, by simp, rfl, rfl, rfl⟩, ⟨.i64, a, m, e1, rfl, by simp [aint, realF]; omega, by simp, by simp, rfl, rfl, rfl⟩, trivial⟩ hr.1.1
    · have : (decide (1 ≤ a) && decide (a ≤ m)) = false := by simp [h2]
      rw [this]
      refine go 2 false ⟨⟨.i64, a, 1, e1, rfl, by simp [aint, realF]; omega, by simp, by simp, rfl, rfl, rfl⟩, ⟨.i64, a, m, e1, rfl, by simp [aint, realF]; omega, by simp, by simp, rfl, rfl, rfl⟩, trivial⟩ hr.2
  · have : (decide (1 ≤ a) && decide (a ≤ m)) = false := by simp [h1]
    rw [this]
    refine go 1 false ⟨⟨.i64, a, 1, e1, rfl, by simp [aint, realF]; omega, by simp, by simp, rfl, rfl, rfl⟩, trivial⟩ hr.1.2

theorem primIn_ok [Sg : Sig] : ∀ {l : List (Tst × Bool)}, (∀ p ∈ l, TstOk p.1 ∧ p.2 = p.1.truth) → PrimOk Tryz.prog 25 (primIn l)
  | [], _ => fun ys s v s' h => by cases h
  | (.cmp op u v, b) :: r, h => fun ys s v' s' h' => primIn_ok (l := r) (fun p hp => h p (by simp [hp])) ys s v' s' h'
  | (.inn i m, b) :: r, h => by
    intro ys s v s' h'
    obtain ⟨⟨h1, a, h2⟩, h3⟩ := h (.inn i m, b) (by simp)
    simp only at h3
    simp only [primIn] at h'
    cases hk : (kIn b).prim [ySym i, .int .i64 m] ys s with
    | none => rw [hk] at h'; exact primIn_ok (l := r) (fun p hp => h p (by simp [hp])) ys s v s' h'
    | some q =>
      rw [hk] at h'
      simp only at h'; cases h'
      rw [h3] at hk
      exact in_prim h1 h2 ys s v s' hk

theorem false_all (a b : Nat) (ha : a ≤ 5) (hb : b ≤ 7) : falseAll a b = true := by
  by_cases a0 : a = 0
  · subst a0
    by_cases b0 : b = 0
    · subst b0; exact false0_0
    by_cases b1 : b = 1
    · subst b1; exact false0_1
    by_cases b2 : b = 2
    · subst b2; exact false0_2
    by_cases b3 : b = 3
    · subst b3; exact false0_3
    by_cases b4 : b = 4
    · subst b4; exact false0_4
    by_cases b5 : b = 5
    · subst b5; exact false0_5
    by_cases b6 : b = 6
    · subst b6; exact false0_6
    by_cases b7 : b = 7
    · subst b7; exact false0_7
    omega
  by_cases a1 : a = 1
  · subst a1
    by_cases b0 : b = 0
    · subst b0; exact false1_0
    by_cases b1 : b = 1
    · subst b1; exact false1_1
    by_cases b2 : b = 2
    · subst b2; exact false1_2
    by_cases b3 : b = 3
    · subst b3; exact false1_3
    by_cases b4 : b = 4
    · subst b4; exact false1_4
    by_cases b5 : b = 5
    · subst b5; exact false1_5
    by_cases b6 : b = 6
    · subst b6; exact false1_6
    by_cases b7 : b = 7
    · subst b7; exact false1_7
    omega
  by_cases a2 : a = 2
  · subst a2
    by_cases b0 : b = 0
    · subst b0; exact false2_0
    by_cases b1 : b = 1
    · subst b1; exact false2_1
    by_cases b2 : b = 2
    · subst b2; exact false2_2
    by_cases b3 : b = 3
    · subst b3; exact false2_3
    by_cases b4 : b = 4
    · subst b4; exact false2_4
    by_cases b5 : b = 5
    · subst b5; exact false2_5
    by_cases b6 : b = 6
    · subst b6; exact false2_6
    by_cases b7 : b = 7
    · subst b7; exact false2_7
    omega
  by_cases a3 : a = 3
  · subst a3
    by_cases b0 : b = 0
    · subst b0; exact false3_0
    by_cases b1 : b = 1
    · subst b1; exact false3_1
    by_cases b2 : b = 2
    · subst b2; exact false3_2
    by_cases b3 : b = 3
    · subst b3; exact false3_3
    by_cases b4 : b = 4
    · subst b4; exact false3_4
    by_cases b5 : b = 5
    · subst b5; exact false3_5
    by_cases b6 : b = 6
    · subst b6; exact false3_6
    by_cases b7 : b = 7
    · subst b7; exact false3_7
    omega
  by_cases a4 : a = 4
  · subst a4
    by_cases b0 : b = 0
    · subst b0; exact false4_0
    by_cases b1 : b = 1
    · subst b1; exact false4_1
    by_cases b2 : b = 2
    · subst b2; exact false4_2
    by_cases b3 : b = 3
    · subst b3; exact false4_3
    by_cases b4 : b = 4
    · subst b4; exact false4_4
    by_cases b5 : b = 5
    · subst b5; exact false4_5
    by_cases b6 : b = 6
    · subst b6; exact false4_6
    by_cases b7 : b = 7
    · subst b7; exact false4_7
    omega
  by_cases a5 : a = 5
  · subst a5
    by_cases b0 : b = 0
    · subst b0; exact false5_0
    by_cases b1 : b = 1
    · subst b1; exact false5_1
    by_cases b2 : b = 2
    · subst b2; exact false5_2
    by_cases b3 : b = 3
    · subst b3; exact false5_3
    by_cases b4 : b = 4
    · subst b4; exact false5_4
    by_cases b5 : b = 5
    · subst b5; exact false5_5
    by_cases b6 : b = 6
    · subst b6; exact false5_6
    by_cases b7 : b = 7
    · subst b7; exact false5_7
    omega
  omega

theorem tstA_ok (x : Cfg) : @AllP Tst (@TstOk x.sig) tstA := by
  letI := x.sig
  exact ⟨⟨by decide, _, rfl⟩, ⟨by decide, _, rfl⟩, ⟨by decide, _, rfl⟩, ⟨by decide, _, rfl⟩, ⟨_, _, _, _, rfl, rfl, rfl, by decide, by decide, rfl, rfl⟩, trivial⟩

theorem tstB_ok (x : Cfg) : @AllP Tst (@TstOk x.sig) tstB := by
  letI := x.sig
  exact ⟨⟨by decide, _, rfl⟩, ⟨by decide, _, rfl⟩, ⟨by decide, _, rfl⟩, ⟨by decide, _, rfl⟩, ⟨by decide, _, rfl⟩, ⟨by decide, _, rfl⟩, ⟨by decide, _, rfl⟩, trivial⟩

theorem tstD_ok (x : Cfg) : @AllP Tst (@TstOk x.sig) tstD := by
  letI := x.sig
  exact ⟨⟨_, _, _, _, rfl, rfl, rfl, by decide, by decide, rfl, rfl⟩, ⟨_, _, _, _, rfl, rfl, rfl, by decide, by decide, rfl, rfl⟩, ⟨_, _, _, _, rfl, rfl, rfl, by decide, by decide, rfl, rfl⟩, ⟨_, _, _, _, rfl, rfl, rfl, by decide, by decide, rfl, rfl⟩, ⟨_, _, _, _, rfl, rfl, rfl, by decide, by decide, rfl, rfl⟩, trivial⟩

theorem tstE_ok (x : Cfg) : @AllP Tst (@TstOk x.sig) tstE := by
  letI := x.sig
  exact ⟨⟨_, _, _, _, rfl, rfl, rfl, by decide, by decide, rfl, rfl⟩, ⟨_, _, _, _, rfl, rfl, rfl, by decide, by decide, rfl, rfl⟩, ⟨_, _, _, _, rfl, rfl, rfl, by decide, by decide, rfl, rfl⟩, ⟨_, _, _, _, rfl, rfl, rfl, by decide, by decide, rfl, rfl⟩, ⟨_, _, _, _, rfl, rfl, rfl, by decide, by decide, rfl, rfl⟩, trivial⟩

theorem tstL_ok (x : Cfg) : @AllP Tst (@TstOk x.sig) tstL := by
  letI := x.sig
  exact ⟨⟨by decide, _, rfl⟩, ⟨_, _, _, _, rfl, rfl, rfl, by decide, by decide, rfl, rfl⟩, ⟨_, _, _, _, rfl, rfl, rfl, by decide, by decide, rfl, rfl⟩, ⟨by decide, _, rfl⟩, ⟨_, _, _, _, rfl, rfl, rfl, by decide, by decide, rfl, rfl⟩, ⟨_, _, _, _, rfl, rfl, rfl, by decide, by decide, rfl, rfl⟩, trivial⟩

theorem arith_ok (x : Cfg) : @AllP Ent (@EntOk x.sig) arith := by
  letI := x.sig
  exact ⟨⟨.i64, x.c 3, 16, rfl, rfl, (by rw [aint, if_neg (by decide)]; rfl), by decide, by decide, rfl, rfl, rfl⟩, ⟨.u64, x.c 11, x.c 12, rfl, rfl, rfl, by decide, by decide, rfl, rfl, rfl⟩,
    ⟨.u64, x.c 13, x.s31, rfl, rfl, rfl, by decide, by decide, rfl, rfl, rfl⟩, ⟨.u64, x.c 11, x.c 12, rfl, rfl, rfl, by decide, by decide, rfl, rfl, rfl⟩, ⟨.u64, 8, x.s33, rfl, rfl, rfl, by decide, by decide, rfl, rfl, rfl⟩, trivial⟩

theorem may_of (x : Cfg) (hwf : 0 ≤ x.c 12) (h : ∀ l ∈ [tstA, tstB, tstD, tstE, tstL], ∀ t ∈ l, @Tst.truth x.sig t = true) : x.May := by
  letI := x.sig
  have hA := h tstA (by simp)
  have hB := h tstB (by simp)
  have hD := h tstD (by simp)
  have hE := h tstE (by simp)
  have hL := h tstL (by simp)
  have t0 : (decide (1 ≤ x.c 0) && decide (x.c 0 ≤ 64)) = true := hA (.inn 0 64) (by simp [tstA])
  have t1 : (decide (1 ≤ x.c 1) && decide (x.c 1 ≤ 4)) = true := hA (.inn 1 4) (by simp [tstA])
  have t2 : (decide (1 ≤ x.c 2) && decide (x.c 2 ≤ 8)) = true := hA (.inn 2 8) (by simp [tstA])
  have t3 : (decide (1 ≤ x.c 3) && decide (x.c 3 ≤ 4096)) = true := hA (.inn 3 4096) (by simp [tstA])
  have t4 : (decide (1 ≤ x.c 4) && decide (x.c 4 ≤ 64)) = true := hB (.inn 4 64) (by simp [tstB])
  have t5 : (decide (1 ≤ x.c 5) && decide (x.c 5 ≤ 64)) = true := hB (.inn 5 64) (by simp [tstB])
  have t6 : (decide (1 ≤ x.c 6) && decide (x.c 6 ≤ 16)) = true := hB (.inn 6 16) (by simp [tstB])
  have t7 : (decide (1 ≤ x.c 7) && decide (x.c 7 ≤ 8)) = true := hB (.inn 7 8) (by simp [tstB])
  have t8 : (decide (1 ≤ x.c 8) && decide (x.c 8 ≤ 64)) = true := hB (.inn 8 64) (by simp [tstB])
  have t9 : (decide (1 ≤ x.c 9) && decide (x.c 9 ≤ 256)) = true := hB (.inn 9 256) (by simp [tstB])
  have t10 : (decide (1 ≤ x.c 10) && decide (x.c 10 ≤ 16)) = true := hB (.inn 10 16) (by simp [tstB])
  have t17 : (decide (1 ≤ x.c 17) && decide (x.c 17 ≤ 38)) = true := hL (.inn 17 38) (by simp [tstL])
  have t19 : (decide (1 ≤ x.c 19) && decide (x.c 19 ≤ 64)) = true := hL (.inn 19 64) (by simp [tstL])
  have q30 : (x.s30 == 0) = true := hA (.cmp .eql (ySym 30) (.int .i64 0)) (by simp [tstA])
  have q1 : decide (x.c 11 ≥ 1) = true := hD (.cmp .geq (ySym 11) (.int .u64 1)) (by simp [tstD])
  have q2 : decide (x.c 11 ≤ 1048576) = true := hD (.cmp .leq (ySym 11) (.int .u64 1048576)) (by simp [tstD])
  have q3 : decide (x.c 12 < x.c 11) = true := hD (.cmp .lss (ySym 12) (ySym 11)) (by simp [tstD])
  have q4 : decide (x.c 13 ≤ 4294967295) = true := hD (.cmp .leq (ySym 13) (.int .u64 4294967295)) (by simp [tstD])
  have q5 : decide (x.s32 ≥ x.s35) = true := hD (.cmp .geq (ySym 32) (ySym 35)) (by simp [tstD])
  have q6 : decide (x.c 14 ≥ 1) = true := hE (.cmp .geq (ySym 14) (.int .u64 1)) (by simp [tstE])
  have q7 : decide (x.c 14 ≤ x.c 15) = true := hE (.cmp .leq (ySym 14) (ySym 15)) (by simp [tstE])
  have q8 : decide (x.c 15 ≤ 4294967295) = true := hE (.cmp .leq (ySym 15) (.int .u64 4294967295)) (by simp [tstE])
  have q9 : decide (x.c 16 ≥ 1) = true := hE (.cmp .geq (ySym 16) (.int .u64 1)) (by simp [tstE])
  have q10 : decide (x.c 16 ≤ 4294967295) = true := hE (.cmp .leq (ySym 16) (.int .u64 4294967295)) (by simp [tstE])
  have q11 : decide (x.c 18 > x.c 17) = true := hL (.cmp .gtr (ySym 18) (ySym 17)) (by simp [tstL])
  have q12 : decide (x.c 18 < 40) = true := hL (.cmp .lss (ySym 18) (.int .i64 40)) (by simp [tstL])
  have q13 : decide (x.c 20 ≤ 4611686018427387904) = true := hL (.cmp .leq (ySym 20) (.int .u64 4611686018427387904)) (by simp [tstL])
  have q14 : decide (x.c 21 ≤ 72057594037927935) = true := hL (.cmp .leq (ySym 21) (.int .u64 72057594037927935)) (by simp [tstL])
  simp only [Bool.and_eq_true, decide_eq_true_eq, beq_iff_eq] at *
  exact { h0 := t0, h1 := t1, h2 := t2, h3 := t3, h4 := t4, h5 := t5, h6 := t6, h7 := t7, h8 := t8, h9 := t9, h10 := t10, h17 := t17, h19 := t19, h30 := q30, h11 := ⟨q1, q2⟩, h12 := ⟨hwf, q3⟩, h13 := q4, h35 := q5, h14 := ⟨q6, q7⟩, h15 := q8, h16 := ⟨q9, q10⟩, h18 := ⟨q11, q12⟩, h20 := q13, h21 := q14 }

theorem mayF_prim (x : Cfg) (hwf : 0 ≤ x.c 12) (hnot : ¬ x.May) : @PrimOk x.sig Tryz.prog 7 (kMayF.prim [cfgS]) := by
  letI := x.sig
  have good : ∀ l : List (Tst × Bool), (∀ p ∈ l, TstOk p.1 ∧ p.2 = p.1.truth) → falseOk l = true → PrimOk Tryz.prog 7 (kMayF.prim [cfgS]) := by
    intro l hl hr
    refine fresh_prim (argsN := [cfgS]) (calls_ok (good_of (fun f p hp => ?_) (cmps_ok (arith_ok x) hl) noRoom_ok) 400) noAl_ok hr rfl rfl rfl
    unfold primF at hp
    cases hf : Nat.beq f 25 with
    | false => rw [hf] at hp; cases hp
    | true =>
      rw [hf] at hp; simp only [cond_true] at hp; cases hp
      have := Nat.eq_of_beq_eq_true hf
      subst this
      exact ⟨primIn_ok hl, Tryz.call25⟩
  have each : ∀ {l : List Tst}, AllP TstOk l → ∀ p ∈ knownT l (firstF l), TstOk p.1 ∧ p.2 = p.1.truth := fun ho p hp => ⟨ho.mem (knownT_truth _ p hp).1, (knownT_truth _ p hp).2⟩
  have four : ∀ p ∈ known4 (firstF tstA) (firstF tstB) (firstF tstD) (firstF tstE), TstOk p.1 ∧ p.2 = p.1.truth := by
    intro p hp
    simp only [known4, List.mem_append] at hp
    rcases hp with ((hp | hp) | hp) | hp
    · exact each (tstA_ok x) p hp
    · exact each (tstB_ok x) p hp
    · exact each (tstD_ok x) p hp
    · exact each (tstE_ok x) p hp
  have hA := firstF_le tstA
  have hB := firstF_le tstB
  have hD := firstF_le tstD
  have hE := firstF_le tstE
  have hL := firstF_le tstL
  have lA : tstA.length = 5 := rfl
  have lB : tstB.length = 7 := rfl
  have lD : tstD.length = 5 := rfl
  have lE : tstE.length = 5 := rfl
  have lL : tstL.length = 6 := rfl
  by_cases hall : firstF tstA = 5 ∧ firstF tstB = 7 ∧ firstF tstD = 5 ∧ firstF tstE = 5
  · obtain ⟨a1, a2, a3, a4⟩ := hall
    by_cases h5 : firstF tstL = 6
    · refine absurd (may_of x hwf fun l hl => ?_) hnot
      simp only [List.mem_cons, List.not_mem_nil, or_false] at hl
      rcases hl with rfl | rfl | rfl | rfl | rfl <;> exact firstF_all _ (by omega)
    · refine good (known5 (firstF tstL)) ?_ (List.all_eq_true.1 falseL _ (List.mem_range.2 (by omega)))
      intro p hp
      simp only [known5, List.mem_append] at hp
      rcases hp with hp | hp
      · rw [a1, a2, a3, a4] at four; exact four p hp
      · exact each (tstL_ok x) p hp
  · refine good _ four ?_
    have hf := false_all (firstF tstA) (firstF tstB) (by omega) (by omega)
    have := List.all_eq_true.1 hf (firstF tstD, firstF tstE) (by
      simp only [ways, List.mem_flatMap, List.mem_map, List.mem_range]
      exact ⟨_, by omega, _, by omega, rfl⟩)
    simp only at this
    cases hc : (Nat.beq (firstF tstA) 5 && Nat.beq (firstF tstB) 7 && Nat.beq (firstF tstD) 5 && Nat.beq (firstF tstE) 5) with
    | false => rw [hc] at this; exact this
    | true =>
      simp only [Bool.and_eq_true] at hc
      exact absurd ⟨Nat.eq_of_beq_eq_true hc.1.1.1, Nat.eq_of_beq_eq_true hc.1.1.2, Nat.eq_of_beq_eq_true hc.1.2, Nat.eq_of_beq_eq_true hc.2⟩ hall

theorem envNot_good (x : Cfg) {k : Kept} {tab : List Ent} (hk : @PrimOk x.sig Tryz.prog 7 (k.prim [cfgS])) (ht : @AllP Ent (@EntOk x.sig) tab) : @Env.Good x.sig (envNot k tab) Tryz.prog := by
  letI := x.sig
  refine good_of (fun f p hp => ?_) ht noRoom_ok
  unfold primNot at hp
  cases h6 : Nat.beq f 6 with
  | true =>
    rw [h6] at hp; simp only [cond_true] at hp; cases hp
    have := Nat.eq_of_beq_eq_true h6
    subst this
    exact ⟨known_prim, Tryz.call6⟩
  | false =>
    rw [h6] at hp; simp only [cond_false] at hp
    cases h7 : Nat.beq f 7 with
    | true =>
      rw [h7] at hp; simp only [cond_true] at hp; cases hp
      have := Nat.eq_of_beq_eq_true h7
      subst this
      exact ⟨hk, Tryz.call7⟩
    | false => rw [h7] at hp; cases hp

/-- NodeAny, at whatever config and number. -/
theorem any_all (x : Cfg) (hwf : 0 ≤ x.c 12) (w : World) : Calls Tryz.prog 3 ⟨argsOf x⟩ w fun e w' => e = .returned (.bool true) ∧ RowKit.Grown w w' := by
  letI := x.sig
  have hl : LR (fun _ => none) [cfgS, ySym 22] (argsOf x) := LR.of_args rfl
  by_cases hm : x.May
  · by_cases h1 : 1 ≤ x.n
    · by_cases h2 : x.n ≤ x.c 0
      · exact any_may x hm ⟨h1, h2⟩ w
      · refine run_true (envNot_good x (tab := tabHigh) (may_prim x hm [cfgS] rfl rfl) ?_) not_high hl w
        exact ⟨⟨.i64, x.n, 1, rfl, rfl, by simp [aint, realF]; omega, by decide, by decide, rfl, rfl, rfl⟩, ⟨.i64, x.n, x.c 0, rfl, rfl, by simp [aint, realF]; omega, by decide, by decide, rfl, rfl, rfl⟩, trivial⟩
    · refine run_true (envNot_good x (tab := tabLow) (may_prim x hm [cfgS] rfl rfl) ?_) not_low hl w
      exact ⟨⟨.i64, x.n, 1, rfl, rfl, by simp [aint, realF]; omega, by decide, by decide, rfl, rfl, rfl⟩, trivial⟩
  · exact run_true (envNot_good x (tab := []) (mayF_prim x hwf hm) trivial) not_may hl w

end Go.Sh
