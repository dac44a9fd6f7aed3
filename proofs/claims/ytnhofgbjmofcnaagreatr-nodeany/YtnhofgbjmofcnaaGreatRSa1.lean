/-
  NodeAny: the symbols of a config, and what is known of them. PRINTED BY PROGRAM (wip/tools/sa1.py).
-/
import Derived.Test.YtnhofgbjmofcnaaGreatRShZ
namespace Go.Sh
open Go

/-- A config's numbers, and a node's. -/
structure Cfg where
  c : Nat → Int
  n : Int

def Cfg.s30 (x : Cfg) : Int := (x.c 3).tmod 16
def Cfg.s31 (x : Cfg) : Int := IntKind.u64.wrap (x.c 11 - x.c 12)
def Cfg.s32 (x : Cfg) : Int := IntKind.u64.wrap (x.c 13 * x.s31)
def Cfg.s33 (x : Cfg) : Int := IntKind.u64.wrap (x.c 11 + x.c 12)
def Cfg.s34 (x : Cfg) : Int := IntKind.u64.wrap (x.s32.tdiv x.s33)
def Cfg.s35 (x : Cfg) : Int := IntKind.u64.wrap (8 * x.s33)
def Cfg.s40 (x : Cfg) : Int := IntKind.i64.wrap ((x.c 3).tdiv 16)
def Cfg.s41 (x : Cfg) : Int := IntKind.i64.wrap (x.c 0 + 1)

def Cfg.sym (x : Cfg) : Nat → Value
  | 0 => .int .i64 (x.c 0)
  | 1 => .int .i64 (x.c 1)
  | 2 => .int .i64 (x.c 2)
  | 3 => .int .i64 (x.c 3)
  | 4 => .int .i64 (x.c 4)
  | 5 => .int .i64 (x.c 5)
  | 6 => .int .i64 (x.c 6)
  | 7 => .int .i64 (x.c 7)
  | 8 => .int .i64 (x.c 8)
  | 9 => .int .i64 (x.c 9)
  | 10 => .int .i64 (x.c 10)
  | 11 => .int .u64 (x.c 11)
  | 12 => .int .u64 (x.c 12)
  | 13 => .int .u64 (x.c 13)
  | 14 => .int .u64 (x.c 14)
  | 15 => .int .u64 (x.c 15)
  | 16 => .int .u64 (x.c 16)
  | 17 => .int .i64 (x.c 17)
  | 18 => .int .i64 (x.c 18)
  | 19 => .int .i64 (x.c 19)
  | 20 => .int .u64 (x.c 20)
  | 21 => .int .u64 (x.c 21)
  | 22 => .int .i64 x.n
  | 30 => .int .i64 x.s30
  | 31 => .int .u64 x.s31
  | 32 => .int .u64 x.s32
  | 33 => .int .u64 x.s33
  | 34 => .int .u64 x.s34
  | 35 => .int .u64 x.s35
  | 40 => .int .i64 x.s40
  | 41 => .int .i64 x.s41
  | _ => .int .i64 0

theorem Cfg.word (x : Cfg) (n : Nat) : isWord (x.sym n) = true := by
  unfold Cfg.sym
  split <;> rfl

@[reducible] def Cfg.sig (x : Cfg) : Sig := ⟨x.sym, x.word⟩

/-- A config that may be. -/
structure Cfg.May (x : Cfg) : Prop where
  h0 : 1 ≤ x.c 0 ∧ x.c 0 ≤ 64
  h1 : 1 ≤ x.c 1 ∧ x.c 1 ≤ 4
  h2 : 1 ≤ x.c 2 ∧ x.c 2 ≤ 8
  h3 : 1 ≤ x.c 3 ∧ x.c 3 ≤ 4096
  h4 : 1 ≤ x.c 4 ∧ x.c 4 ≤ 64
  h5 : 1 ≤ x.c 5 ∧ x.c 5 ≤ 64
  h6 : 1 ≤ x.c 6 ∧ x.c 6 ≤ 16
  h7 : 1 ≤ x.c 7 ∧ x.c 7 ≤ 8
  h8 : 1 ≤ x.c 8 ∧ x.c 8 ≤ 64
  h9 : 1 ≤ x.c 9 ∧ x.c 9 ≤ 256
  h10 : 1 ≤ x.c 10 ∧ x.c 10 ≤ 16
  h17 : 1 ≤ x.c 17 ∧ x.c 17 ≤ 38
  h19 : 1 ≤ x.c 19 ∧ x.c 19 ≤ 64
  h30 : x.s30 = 0
  h11 : 1 ≤ x.c 11 ∧ x.c 11 ≤ 1048576
  h12 : 0 ≤ x.c 12 ∧ x.c 12 < x.c 11
  h13 : x.c 13 ≤ 4294967295
  h35 : x.s35 ≤ x.s32
  h14 : 1 ≤ x.c 14 ∧ x.c 14 ≤ x.c 15
  h15 : x.c 15 ≤ 4294967295
  h16 : 1 ≤ x.c 16 ∧ x.c 16 ≤ 4294967295
  h18 : x.c 17 < x.c 18 ∧ x.c 18 < 40
  h20 : x.c 20 ≤ 4611686018427387904
  h21 : x.c 21 ≤ 72057594037927935

theorem Cfg.s33_eq {x : Cfg} (h : x.May) : x.s33 = x.c 11 + x.c 12 := by
  have h1 := h.h11
  have h2 := h.h12
  unfold Cfg.s33 IntKind.wrap
  simp [IntKind.bits, IntKind.signed]
  omega

theorem Cfg.s33_ne {x : Cfg} (h : x.May) : ¬ x.s33 = 0 := by
  have h1 := h.h11
  have h2 := h.h12
  rw [Cfg.s33_eq h]; omega

theorem Cfg.s41_eq {x : Cfg} (h : x.May) : x.s41 = x.c 0 + 1 := by
  have h1 := h.h0
  unfold Cfg.s41 IntKind.wrap
  simp [IntKind.bits, IntKind.signed]
  omega

theorem Cfg.ge16 {x : Cfg} (h : x.May) : 16 ≤ x.c 3 := by
  have h1 := h.h3
  have h2 := h.h30
  unfold Cfg.s30 at h2
  have h3 := Int.emod_nonneg (x.c 3) (show (16 : Int) ≠ 0 by decide)
  rw [Int.tmod_eq_emod_of_nonneg (by omega)] at h2
  omega

theorem Cfg.s40_eq {x : Cfg} (h : x.May) : 0 ≤ x.s40 ∧ x.s40 ≤ 256 := by
  have h1 := h.h3
  have e : x.s40 = x.c 3 / 16 := by
    unfold Cfg.s40
    rw [Int.tdiv_eq_ediv_of_nonneg (by omega)]
    unfold IntKind.wrap
    simp [IntKind.bits, IntKind.signed]
    omega
  rw [e]; omega

/-! ### oracles -/
abbrev Ent := BinOp × Value × Value × Value

def opN : BinOp → Nat
  | .add => 0 | .sub => 1 | .mul => 2 | .quo => 3 | .rem => 4 | .and => 5 | .or => 6 | .xor => 7 | .andNot => 8
  | .eql => 9 | .neq => 10 | .lss => 11 | .leq => 12 | .gtr => 13 | .geq => 14 | .shl => 15 | .shr => 16

theorem opN_inj {a b : BinOp} (h : opN a = opN b) : a = b := by
  cases a <;> cases b <;> first | rfl | cases h

def orcOf : List Ent → BinOp → Value → Value → Option Value
  | [], _, _, _ => none
  | (o, a, b, r) :: t, op, u, v => cond (Nat.beq (opN o) (opN op) && sameV a u && sameV b v) (some r) (orcOf t op u v)

theorem orcOf_mem [Sg : Sig] : ∀ {tab : List Ent} {op : BinOp} {u v r : Value}, orcOf tab op u v = some r → (op, u, v, r) ∈ tab
  | [], _, _, _, _, h => by cases h
  | (o, a, b, q) :: t, op, u, v, r, h => by
    simp only [orcOf] at h
    cases hc : (Nat.beq (opN o) (opN op) && sameV a u && sameV b v) with
    | false => rw [hc] at h; exact List.mem_cons_of_mem _ (orcOf_mem h)
    | true =>
      rw [hc] at h; cases h
      simp only [Bool.and_eq_true] at hc
      have e1 := opN_inj (Nat.eq_of_beq_eq_true hc.1.1)
      have e2 := sameV_eq hc.1.2
      have e3 := sameV_eq hc.2
      subst e1; subst e2; subst e3
      exact List.mem_cons_self

def EntOk [Sig] (e : Ent) : Prop := ∃ k a b, realF e.2.1 = .int k a ∧ realF e.2.2.1 = .int k b ∧ aint e.1 k a b = some (realF e.2.2.2) ∧ e.1 ≠ .shl ∧ e.1 ≠ .shr ∧ flatV e.2.1 = true ∧ flatV e.2.2.1 = true ∧ flatV e.2.2.2 = true

theorem orcOf_ok [Sg : Sig] {P : Program} {tab : List Ent} (h : AllP EntOk tab) : ∀ op u v r, orcOf tab op u v = some r → ∀ (ι : Inj) u' v' t w, VR ι u u' → VR ι v v' → ¬ (u' = .nilIface ∧ v' = .nilIface) ∧ (∀ xs, u' ≠ .agg xs) ∧ ∃ r', (binOp op t u' v').run P w = .ok r' w ∧ VR ι r r' := by
  intro op u v r ho ι u' v' t w hu hv
  obtain ⟨k, a, b, e1, e2, e3, e4, e5, e6, e7, e8⟩ := h.mem (orcOf_mem ho)
  simp only at e1 e2 e3 e4 e5 e6 e7 e8
  have f1 := hu.flat e6
  have f2 := hv.flat e7
  rw [e1] at f1; rw [e2] at f2
  subst f1; subst f2
  refine ⟨by simp, by simp, realF r, (aint_run (P := P) e3 e4 e5 t w).1, .of_flat e8⟩

def tabMain : List Ent := [(.lss, (.complex .f64 22 0), (.int .i64 1), (.bool false)), (.gtr, (.complex .f64 22 0), (.complex .f64 0 0), (.bool false)), (.gtr, (.complex .f64 22 0), (.int .i64 64), (.bool false)), (.lss, (.complex .f64 3 0), (.int .i64 16), (.bool false)), (.gtr, (.complex .f64 3 0), (.int .i64 4096), (.bool false)), (.rem, (.complex .f64 3 0), (.int .i64 16), (.complex .f64 30 0)), (.neq, (.complex .f64 30 0), (.int .i64 0), (.bool false)), (.quo, (.complex .f64 3 0), (.int .i64 16), (.complex .f64 40 0)), (.lss, (.complex .f64 4 0), (.int .i64 1), (.bool false)), (.gtr, (.complex .f64 4 0), (.int .i64 64), (.bool false)), (.lss, (.complex .f64 5 0), (.int .i64 1), (.bool false)), (.gtr, (.complex .f64 5 0), (.int .i64 4096), (.bool false)), (.lss, (.complex .f64 6 0), (.int .i64 1), (.bool false)), (.gtr, (.complex .f64 6 0), (.int .i64 4096), (.bool false)), (.lss, (.complex .f64 8 0), (.int .i64 1), (.bool false)), (.gtr, (.complex .f64 8 0), (.int .i64 64), (.bool false)), (.lss, (.complex .f64 11 0), (.int .u64 1), (.bool false)), (.gtr, (.complex .f64 11 0), (.int .u64 1048576), (.bool false)), (.geq, (.complex .f64 12 0), (.complex .f64 11 0), (.bool false)), (.gtr, (.complex .f64 13 0), (.int .u64 4294967295), (.bool false)), (.sub, (.complex .f64 11 0), (.complex .f64 12 0), (.complex .f64 31 0)), (.mul, (.complex .f64 13 0), (.complex .f64 31 0), (.complex .f64 32 0)), (.add, (.complex .f64 11 0), (.complex .f64 12 0), (.complex .f64 33 0)), (.quo, (.complex .f64 32 0), (.complex .f64 33 0), (.complex .f64 34 0)), (.lss, (.complex .f64 17 0), (.int .i64 0), (.bool false)), (.gtr, (.complex .f64 17 0), (.int .i64 40), (.bool false)), (.lss, (.complex .f64 19 0), (.int .i64 1), (.bool false)), (.gtr, (.complex .f64 19 0), (.int .i64 64), (.bool false)), (.gtr, (.complex .f64 20 0), (.int .u64 4611686018427387904), (.bool false)), (.gtr, (.complex .f64 21 0), (.int .u64 72057594037927935), (.bool false)), (.neq, (.complex .f64 20 0), (.complex .f64 20 0), (.bool false)), (.neq, (.complex .f64 21 0), (.complex .f64 21 0), (.bool false))]

theorem tabMain_ok (x : Cfg) (h : x.May) (hn : 1 ≤ x.n ∧ x.n ≤ x.c 0) : @AllP Ent (@EntOk x.sig) tabMain := by
  letI := x.sig
  have h0 := h.h0
  have h1 := h.h1
  have h2 := h.h2
  have h3 := h.h3
  have h4 := h.h4
  have h5 := h.h5
  have h6 := h.h6
  have h7 := h.h7
  have h8 := h.h8
  have h9 := h.h9
  have h10 := h.h10
  have h17 := h.h17
  have h19 := h.h19
  have h30 := h.h30
  have h11 := h.h11
  have h12 := h.h12
  have h13 := h.h13
  have h35 := h.h35
  have h14 := h.h14
  have h15 := h.h15
  have h16 := h.h16
  have h18 := h.h18
  have h20 := h.h20
  have h21 := h.h21
  have g3 := Cfg.ge16 h
  refine ⟨?_, ?_, ?_, ?_, ?_, ?_, ?_, ?_, ?_, ?_, ?_, ?_, ?_, ?_, ?_, ?_, ?_, ?_, ?_, ?_, ?_, ?_, ?_, ?_, ?_, ?_, ?_, ?_, ?_, ?_, ?_, ?_, trivial⟩
  · exact ⟨.i64, x.n, 1, rfl, rfl, by first | (simp [aint, realF]; done) | (simp [aint, realF]; omega), by decide, by decide, rfl, rfl, rfl⟩
  · exact ⟨.i64, x.n, x.c 0, rfl, rfl, by first | (simp [aint, realF]; done) | (simp [aint, realF]; omega), by decide, by decide, rfl, rfl, rfl⟩
  · exact ⟨.i64, x.n, 64, rfl, rfl, by first | (simp [aint, realF]; done) | (simp [aint, realF]; omega), by decide, by decide, rfl, rfl, rfl⟩
  · exact ⟨.i64, x.c 3, 16, rfl, rfl, by first | (simp [aint, realF]; done) | (simp [aint, realF]; omega), by decide, by decide, rfl, rfl, rfl⟩
  · exact ⟨.i64, x.c 3, 4096, rfl, rfl, by first | (simp [aint, realF]; done) | (simp [aint, realF]; omega), by decide, by decide, rfl, rfl, rfl⟩
  · exact ⟨.i64, x.c 3, 16, rfl, rfl, (by rw [aint, if_neg (by decide)]; rfl), by decide, by decide, rfl, rfl, rfl⟩
  · exact ⟨.i64, x.s30, 0, rfl, rfl, by first | (simp [aint, realF]; done) | (simp [aint, realF]; omega), by decide, by decide, rfl, rfl, rfl⟩
  · exact ⟨.i64, x.c 3, 16, rfl, rfl, (by rw [aint, if_neg (by decide)]; rfl), by decide, by decide, rfl, rfl, rfl⟩
  · exact ⟨.i64, x.c 4, 1, rfl, rfl, by first | (simp [aint, realF]; done) | (simp [aint, realF]; omega), by decide, by decide, rfl, rfl, rfl⟩
  · exact ⟨.i64, x.c 4, 64, rfl, rfl, by first | (simp [aint, realF]; done) | (simp [aint, realF]; omega), by decide, by decide, rfl, rfl, rfl⟩
  · exact ⟨.i64, x.c 5, 1, rfl, rfl, by first | (simp [aint, realF]; done) | (simp [aint, realF]; omega), by decide, by decide, rfl, rfl, rfl⟩
  · exact ⟨.i64, x.c 5, 4096, rfl, rfl, by first | (simp [aint, realF]; done) | (simp [aint, realF]; omega), by decide, by decide, rfl, rfl, rfl⟩
  · exact ⟨.i64, x.c 6, 1, rfl, rfl, by first | (simp [aint, realF]; done) | (simp [aint, realF]; omega), by decide, by decide, rfl, rfl, rfl⟩
  · exact ⟨.i64, x.c 6, 4096, rfl, rfl, by first | (simp [aint, realF]; done) | (simp [aint, realF]; omega), by decide, by decide, rfl, rfl, rfl⟩
  · exact ⟨.i64, x.c 8, 1, rfl, rfl, by first | (simp [aint, realF]; done) | (simp [aint, realF]; omega), by decide, by decide, rfl, rfl, rfl⟩
  · exact ⟨.i64, x.c 8, 64, rfl, rfl, by first | (simp [aint, realF]; done) | (simp [aint, realF]; omega), by decide, by decide, rfl, rfl, rfl⟩
  · exact ⟨.u64, x.c 11, 1, rfl, rfl, by first | (simp [aint, realF]; done) | (simp [aint, realF]; omega), by decide, by decide, rfl, rfl, rfl⟩
  · exact ⟨.u64, x.c 11, 1048576, rfl, rfl, by first | (simp [aint, realF]; done) | (simp [aint, realF]; omega), by decide, by decide, rfl, rfl, rfl⟩
  · exact ⟨.u64, x.c 12, x.c 11, rfl, rfl, by first | (simp [aint, realF]; done) | (simp [aint, realF]; omega), by decide, by decide, rfl, rfl, rfl⟩
  · exact ⟨.u64, x.c 13, 4294967295, rfl, rfl, by first | (simp [aint, realF]; done) | (simp [aint, realF]; omega), by decide, by decide, rfl, rfl, rfl⟩
  · exact ⟨.u64, x.c 11, x.c 12, rfl, rfl, rfl, by decide, by decide, rfl, rfl, rfl⟩
  · exact ⟨.u64, x.c 13, x.s31, rfl, rfl, rfl, by decide, by decide, rfl, rfl, rfl⟩
  · exact ⟨.u64, x.c 11, x.c 12, rfl, rfl, rfl, by decide, by decide, rfl, rfl, rfl⟩
  · exact ⟨.u64, x.s32, x.s33, rfl, rfl, (by rw [aint, if_neg (x.s33_ne h)]; rfl), by decide, by decide, rfl, rfl, rfl⟩
  · exact ⟨.i64, x.c 17, 0, rfl, rfl, by first | (simp [aint, realF]; done) | (simp [aint, realF]; omega), by decide, by decide, rfl, rfl, rfl⟩
  · exact ⟨.i64, x.c 17, 40, rfl, rfl, by first | (simp [aint, realF]; done) | (simp [aint, realF]; omega), by decide, by decide, rfl, rfl, rfl⟩
  · exact ⟨.i64, x.c 19, 1, rfl, rfl, by first | (simp [aint, realF]; done) | (simp [aint, realF]; omega), by decide, by decide, rfl, rfl, rfl⟩
  · exact ⟨.i64, x.c 19, 64, rfl, rfl, by first | (simp [aint, realF]; done) | (simp [aint, realF]; omega), by decide, by decide, rfl, rfl, rfl⟩
  · exact ⟨.u64, x.c 20, 4611686018427387904, rfl, rfl, by first | (simp [aint, realF]; done) | (simp [aint, realF]; omega), by decide, by decide, rfl, rfl, rfl⟩
  · exact ⟨.u64, x.c 21, 72057594037927935, rfl, rfl, by first | (simp [aint, realF]; done) | (simp [aint, realF]; omega), by decide, by decide, rfl, rfl, rfl⟩
  · exact ⟨.u64, x.c 20, x.c 20, rfl, rfl, by first | (simp [aint, realF]; done) | (simp [aint, realF]; omega), by decide, by decide, rfl, rfl, rfl⟩
  · exact ⟨.u64, x.c 21, x.c 21, rfl, rfl, by first | (simp [aint, realF]; done) | (simp [aint, realF]; omega), by decide, by decide, rfl, rfl, rfl⟩

def tabMay : List Ent := [(.geq, (.complex .f64 0 0), (.int .i64 1), (.bool true)), (.leq, (.complex .f64 0 0), (.int .i64 64), (.bool true)), (.geq, (.complex .f64 1 0), (.int .i64 1), (.bool true)), (.leq, (.complex .f64 1 0), (.int .i64 4), (.bool true)), (.geq, (.complex .f64 2 0), (.int .i64 1), (.bool true)), (.leq, (.complex .f64 2 0), (.int .i64 8), (.bool true)), (.geq, (.complex .f64 3 0), (.int .i64 1), (.bool true)), (.leq, (.complex .f64 3 0), (.int .i64 4096), (.bool true)), (.rem, (.complex .f64 3 0), (.int .i64 16), (.complex .f64 30 0)), (.eql, (.complex .f64 30 0), (.int .i64 0), (.bool true)), (.geq, (.complex .f64 4 0), (.int .i64 1), (.bool true)), (.leq, (.complex .f64 4 0), (.int .i64 64), (.bool true)), (.geq, (.complex .f64 5 0), (.int .i64 1), (.bool true)), (.leq, (.complex .f64 5 0), (.int .i64 64), (.bool true)), (.geq, (.complex .f64 6 0), (.int .i64 1), (.bool true)), (.leq, (.complex .f64 6 0), (.int .i64 16), (.bool true)), (.geq, (.complex .f64 7 0), (.int .i64 1), (.bool true)), (.leq, (.complex .f64 7 0), (.int .i64 8), (.bool true)), (.geq, (.complex .f64 8 0), (.int .i64 1), (.bool true)), (.leq, (.complex .f64 8 0), (.int .i64 64), (.bool true)), (.geq, (.complex .f64 9 0), (.int .i64 1), (.bool true)), (.leq, (.complex .f64 9 0), (.int .i64 256), (.bool true)), (.geq, (.complex .f64 10 0), (.int .i64 1), (.bool true)), (.leq, (.complex .f64 10 0), (.int .i64 16), (.bool true)), (.geq, (.complex .f64 11 0), (.int .u64 1), (.bool true)), (.leq, (.complex .f64 11 0), (.int .u64 1048576), (.bool true)), (.lss, (.complex .f64 12 0), (.complex .f64 11 0), (.bool true)), (.leq, (.complex .f64 13 0), (.int .u64 4294967295), (.bool true)), (.sub, (.complex .f64 11 0), (.complex .f64 12 0), (.complex .f64 31 0)), (.mul, (.complex .f64 13 0), (.complex .f64 31 0), (.complex .f64 32 0)), (.add, (.complex .f64 11 0), (.complex .f64 12 0), (.complex .f64 33 0)), (.mul, (.int .u64 8), (.complex .f64 33 0), (.complex .f64 35 0)), (.geq, (.complex .f64 32 0), (.complex .f64 35 0), (.bool true)), (.geq, (.complex .f64 14 0), (.int .u64 1), (.bool true)), (.leq, (.complex .f64 14 0), (.complex .f64 15 0), (.bool true)), (.leq, (.complex .f64 15 0), (.int .u64 4294967295), (.bool true)), (.geq, (.complex .f64 16 0), (.int .u64 1), (.bool true)), (.leq, (.complex .f64 16 0), (.int .u64 4294967295), (.bool true)), (.geq, (.complex .f64 17 0), (.int .i64 1), (.bool true)), (.leq, (.complex .f64 17 0), (.int .i64 38), (.bool true)), (.gtr, (.complex .f64 18 0), (.complex .f64 17 0), (.bool true)), (.lss, (.complex .f64 18 0), (.int .i64 40), (.bool true)), (.geq, (.complex .f64 19 0), (.int .i64 1), (.bool true)), (.leq, (.complex .f64 19 0), (.int .i64 64), (.bool true)), (.leq, (.complex .f64 20 0), (.int .u64 4611686018427387904), (.bool true)), (.leq, (.complex .f64 21 0), (.int .u64 72057594037927935), (.bool true))]

theorem tabMay_ok (x : Cfg) (h : x.May) : @AllP Ent (@EntOk x.sig) tabMay := by
  letI := x.sig
  have h0 := h.h0
  have h1 := h.h1
  have h2 := h.h2
  have h3 := h.h3
  have h4 := h.h4
  have h5 := h.h5
  have h6 := h.h6
  have h7 := h.h7
  have h8 := h.h8
  have h9 := h.h9
  have h10 := h.h10
  have h17 := h.h17
  have h19 := h.h19
  have h30 := h.h30
  have h11 := h.h11
  have h12 := h.h12
  have h13 := h.h13
  have h35 := h.h35
  have h14 := h.h14
  have h15 := h.h15
  have h16 := h.h16
  have h18 := h.h18
  have h20 := h.h20
  have h21 := h.h21
  have g3 := Cfg.ge16 h
  refine ⟨?_, ?_, ?_, ?_, ?_, ?_, ?_, ?_, ?_, ?_, ?_, ?_, ?_, ?_, ?_, ?_, ?_, ?_, ?_, ?_, ?_, ?_, ?_, ?_, ?_, ?_, ?_, ?_, ?_, ?_, ?_, ?_, ?_, ?_, ?_, ?_, ?_, ?_, ?_, ?_, ?_, ?_, ?_, ?_, ?_, ?_, trivial⟩
  · exact ⟨.i64, x.c 0, 1, rfl, rfl, by first | (simp [aint, realF]; done) | (simp [aint, realF]; omega), by decide, by decide, rfl, rfl, rfl⟩
  · exact ⟨.i64, x.c 0, 64, rfl, rfl, by first | (simp [aint, realF]; done) | (simp [aint, realF]; omega), by decide, by decide, rfl, rfl, rfl⟩
  · exact ⟨.i64, x.c 1, 1, rfl, rfl, by first | (simp [aint, realF]; done) | (simp [aint, realF]; omega), by decide, by decide, rfl, rfl, rfl⟩
  · exact ⟨.i64, x.c 1, 4, rfl, rfl, by first | (simp [aint, realF]; done) | (simp [aint, realF]; omega), by decide, by decide, rfl, rfl, rfl⟩
  · exact ⟨.i64, x.c 2, 1, rfl, rfl, by first | (simp [aint, realF]; done) | (simp [aint, realF]; omega), by decide, by decide, rfl, rfl, rfl⟩
  · exact ⟨.i64, x.c 2, 8, rfl, rfl, by first | (simp [aint, realF]; done) | (simp [aint, realF]; omega), by decide, by decide, rfl, rfl, rfl⟩
  · exact ⟨.i64, x.c 3, 1, rfl, rfl, by first | (simp [aint, realF]; done) | (simp [aint, realF]; omega), by decide, by decide, rfl, rfl, rfl⟩
  · exact ⟨.i64, x.c 3, 4096, rfl, rfl, by first | (simp [aint, realF]; done) | (simp [aint, realF]; omega), by decide, by decide, rfl, rfl, rfl⟩
  · exact ⟨.i64, x.c 3, 16, rfl, rfl, (by rw [aint, if_neg (by decide)]; rfl), by decide, by decide, rfl, rfl, rfl⟩
  · exact ⟨.i64, x.s30, 0, rfl, rfl, by first | (simp [aint, realF]; done) | (simp [aint, realF]; omega), by decide, by decide, rfl, rfl, rfl⟩
  · exact ⟨.i64, x.c 4, 1, rfl, rfl, by first | (simp [aint, realF]; done) | (simp [aint, realF]; omega), by decide, by decide, rfl, rfl, rfl⟩
  · exact ⟨.i64, x.c 4, 64, rfl, rfl, by first | (simp [aint, realF]; done) | (simp [aint, realF]; omega), by decide, by decide, rfl, rfl, rfl⟩
  · exact ⟨.i64, x.c 5, 1, rfl, rfl, by first | (simp [aint, realF]; done) | (simp [aint, realF]; omega), by decide, by decide, rfl, rfl, rfl⟩
  · exact ⟨.i64, x.c 5, 64, rfl, rfl, by first | (simp [aint, realF]; done) | (simp [aint, realF]; omega), by decide, by decide, rfl, rfl, rfl⟩
  · exact ⟨.i64, x.c 6, 1, rfl, rfl, by first | (simp [aint, realF]; done) | (simp [aint, realF]; omega), by decide, by decide, rfl, rfl, rfl⟩
  · exact ⟨.i64, x.c 6, 16, rfl, rfl, by first | (simp [aint, realF]; done) | (simp [aint, realF]; omega), by decide, by decide, rfl, rfl, rfl⟩
  · exact ⟨.i64, x.c 7, 1, rfl, rfl, by first | (simp [aint, realF]; done) | (simp [aint, realF]; omega), by decide, by decide, rfl, rfl, rfl⟩
  · exact ⟨.i64, x.c 7, 8, rfl, rfl, by first | (simp [aint, realF]; done) | (simp [aint, realF]; omega), by decide, by decide, rfl, rfl, rfl⟩
  · exact ⟨.i64, x.c 8, 1, rfl, rfl, by first | (simp [aint, realF]; done) | (simp [aint, realF]; omega), by decide, by decide, rfl, rfl, rfl⟩
  · exact ⟨.i64, x.c 8, 64, rfl, rfl, by first | (simp [aint, realF]; done) | (simp [aint, realF]; omega), by decide, by decide, rfl, rfl, rfl⟩
  · exact ⟨.i64, x.c 9, 1, rfl, rfl, by first | (simp [aint, realF]; done) | (simp [aint, realF]; omega), by decide, by decide, rfl, rfl, rfl⟩
  · exact ⟨.i64, x.c 9, 256, rfl, rfl, by first | (simp [aint, realF]; done) | (simp [aint, realF]; omega), by decide, by decide, rfl, rfl, rfl⟩
  · exact ⟨.i64, x.c 10, 1, rfl, rfl, by first | (simp [aint, realF]; done) | (simp [aint, realF]; omega), by decide, by decide, rfl, rfl, rfl⟩
  · exact ⟨.i64, x.c 10, 16, rfl, rfl, by first | (simp [aint, realF]; done) | (simp [aint, realF]; omega), by decide, by decide, rfl, rfl, rfl⟩
  · exact ⟨.u64, x.c 11, 1, rfl, rfl, by first | (simp [aint, realF]; done) | (simp [aint, realF]; omega), by decide, by decide, rfl, rfl, rfl⟩
  · exact ⟨.u64, x.c 11, 1048576, rfl, rfl, by first | (simp [aint, realF]; done) | (simp [aint, realF]; omega), by decide, by decide, rfl, rfl, rfl⟩
  · exact ⟨.u64, x.c 12, x.c 11, rfl, rfl, by first | (simp [aint, realF]; done) | (simp [aint, realF]; omega), by decide, by decide, rfl, rfl, rfl⟩
  · exact ⟨.u64, x.c 13, 4294967295, rfl, rfl, by first | (simp [aint, realF]; done) | (simp [aint, realF]; omega), by decide, by decide, rfl, rfl, rfl⟩
  · exact ⟨.u64, x.c 11, x.c 12, rfl, rfl, rfl, by decide, by decide, rfl, rfl, rfl⟩
  · exact ⟨.u64, x.c 13, x.s31, rfl, rfl, rfl, by decide, by decide, rfl, rfl, rfl⟩
  · exact ⟨.u64, x.c 11, x.c 12, rfl, rfl, rfl, by decide, by decide, rfl, rfl, rfl⟩
  · exact ⟨.u64, 8, x.s33, rfl, rfl, rfl, by decide, by decide, rfl, rfl, rfl⟩
  · exact ⟨.u64, x.s32, x.s35, rfl, rfl, by first | (simp [aint, realF]; done) | (simp [aint, realF]; omega), by decide, by decide, rfl, rfl, rfl⟩
  · exact ⟨.u64, x.c 14, 1, rfl, rfl, by first | (simp [aint, realF]; done) | (simp [aint, realF]; omega), by decide, by decide, rfl, rfl, rfl⟩
  · exact ⟨.u64, x.c 14, x.c 15, rfl, rfl, by first | (simp [aint, realF]; done) | (simp [aint, realF]; omega), by decide, by decide, rfl, rfl, rfl⟩
  · exact ⟨.u64, x.c 15, 4294967295, rfl, rfl, by first | (simp [aint, realF]; done) | (simp [aint, realF]; omega), by decide, by decide, rfl, rfl, rfl⟩
  · exact ⟨.u64, x.c 16, 1, rfl, rfl, by first | (simp [aint, realF]; done) | (simp [aint, realF]; omega), by decide, by decide, rfl, rfl, rfl⟩
  · exact ⟨.u64, x.c 16, 4294967295, rfl, rfl, by first | (simp [aint, realF]; done) | (simp [aint, realF]; omega), by decide, by decide, rfl, rfl, rfl⟩
  · exact ⟨.i64, x.c 17, 1, rfl, rfl, by first | (simp [aint, realF]; done) | (simp [aint, realF]; omega), by decide, by decide, rfl, rfl, rfl⟩
  · exact ⟨.i64, x.c 17, 38, rfl, rfl, by first | (simp [aint, realF]; done) | (simp [aint, realF]; omega), by decide, by decide, rfl, rfl, rfl⟩
  · exact ⟨.i64, x.c 18, x.c 17, rfl, rfl, by first | (simp [aint, realF]; done) | (simp [aint, realF]; omega), by decide, by decide, rfl, rfl, rfl⟩
  · exact ⟨.i64, x.c 18, 40, rfl, rfl, by first | (simp [aint, realF]; done) | (simp [aint, realF]; omega), by decide, by decide, rfl, rfl, rfl⟩
  · exact ⟨.i64, x.c 19, 1, rfl, rfl, by first | (simp [aint, realF]; done) | (simp [aint, realF]; omega), by decide, by decide, rfl, rfl, rfl⟩
  · exact ⟨.i64, x.c 19, 64, rfl, rfl, by first | (simp [aint, realF]; done) | (simp [aint, realF]; omega), by decide, by decide, rfl, rfl, rfl⟩
  · exact ⟨.u64, x.c 20, 4611686018427387904, rfl, rfl, by first | (simp [aint, realF]; done) | (simp [aint, realF]; omega), by decide, by decide, rfl, rfl, rfl⟩
  · exact ⟨.u64, x.c 21, 72057594037927935, rfl, rfl, by first | (simp [aint, realF]; done) | (simp [aint, realF]; omega), by decide, by decide, rfl, rfl, rfl⟩

/-- The main table, and a number of nodes. -/
def tabN (N : Int) : List Ent := (.gtr, (.complex .f64 22 0), (.int .i64 N), (.bool false)) :: tabMain

theorem tabN_ok (x : Cfg) (h : x.May) (hn : 1 ≤ x.n ∧ x.n ≤ x.c 0) : @AllP Ent (@EntOk x.sig) (tabN (x.c 0)) := by
  letI := x.sig
  exact ⟨⟨.i64, x.n, x.c 0, rfl, rfl, by simp [aint, realF]; omega, by simp, by simp, rfl, rfl, rfl⟩, tabMain_ok x h hn⟩

def roomOf (n : Nat) : Bool := Nat.beq n 40

theorem roomOf_ok (x : Cfg) (h : x.May) : ∀ n, roomOf n = true → ∃ k m, x.sig.sym n = .int k m ∧ 0 ≤ m ∧ m.toNat ≤ 5000 := by
  intro n hn
  have := Nat.eq_of_beq_eq_true hn
  subst this
  have := Cfg.s40_eq h
  exact ⟨.i64, x.s40, rfl, this.1, by omega⟩

end Go.Sh
