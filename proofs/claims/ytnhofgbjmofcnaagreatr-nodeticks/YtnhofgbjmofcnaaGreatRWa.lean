/-
  NodeTicks: a config that may be. NodeTicks: a config is made of any numbers. NodeTicks: a node's parts are made. NodeTicks: a node's parts are made: roots, clock, cycle. NodeTicks: a node's parts are made: cycle, tables. NodeTicks: a node's parts are made: caller, server, trace.
-/
import Derived.Test.YtnhofgbjmofcnaaGreatRVc
import Derived.Test.YtnhofgbjmofcnaaGreatRMb

namespace Go.Sh
open Go
open Go.Proofs

variable {prim : PrimF} {s : St} {Q : Value → St → Prop} {P : Lay} {ty : Nat → Ty} {ρ : Rho}

structure CfgOk (c : Nat → Int) : Prop where
  c0 : 2 ≤ c 0 ∧ c 0 ≤ 4
  c1 : 1 ≤ c 1 ∧ c 1 ≤ 3
  c2 : 2 ≤ c 2 ∧ c 2 ≤ 5
  c3 : 16 ≤ c 3 ∧ c 3 ≤ 128
  c3m : (c 3).tmod 16 = 0
  c4 : 1 ≤ c 4 ∧ c 4 ≤ 64
  c5 : 1 ≤ c 5 ∧ c 5 ≤ 64
  c6 : 1 ≤ c 6 ∧ c 6 ≤ 16
  c7 : 1 ≤ c 7 ∧ c 7 ≤ 8
  c8 : 1 ≤ c 8 ∧ c 8 ≤ 64
  c9 : 1 ≤ c 9 ∧ c 9 ≤ 256
  c10 : 1 ≤ c 10 ∧ c 10 ≤ 16
  c11 : 1 ≤ c 11 ∧ c 11 ≤ 1000
  c12 : 0 ≤ c 12 ∧ c 12 < c 11
  c13 : 0 ≤ c 13 ∧ c 13 ≤ 1000000
  c13m : 8 * (c 11 + c 12) ≤ c 13 * (c 11 - c 12) ∧ c 13 * (c 11 - c 12) ≤ 1000000000
  c14 : 1 ≤ c 14 ∧ c 14 ≤ c 15
  c15 : c 15 ≤ 1000000
  c16 : 1 ≤ c 16 ∧ c 16 ≤ 1000000
  c17 : 1 ≤ c 17 ∧ c 17 ≤ 38
  c18 : c 17 < c 18 ∧ c 18 < 40
  c19 : 1 ≤ c 19 ∧ c 19 ≤ 64
  c20 : 0 ≤ c 20 ∧ c 20 ≤ 4611686018427387904
  c21 : 0 ≤ c 21 ∧ c 21 ≤ 72057594037927935

theorem in25_ok (hP : POnly prim) {x m : Int} (h1 : 1 ≤ x) (h2 : x ≤ m) (hq : Q (.bool true) s) : WC (tE prim) 25 [.int .i64 x, .int .i64 m] s Q := by
  refine WC_fn (fm25 prim (hP.no _)) rfl ?_
  simp (disch := omega) [m25, h1, h2]
  exact hq

set_option maxRecDepth 100000 in
set_option maxHeartbeats 1600000 in
theorem may_ok (hP : POnly prim) {c : Nat → Int} (hc : CfgOk c) (hq : ∀ s', Keep s s' → Q (.bool true) s') : WC (tE prim) 7 [cfgV c] s Q := by
  refine WC_fn (fm7 prim (hP.no _)) rfl ?_
  obtain ⟨c0, c1, c2, c3, c3m, c4, c5, c6, c7, c8, c9, c10, c11, c12, c13, c13m, c14, c15, c16, c17, c18, c19, c20, c21⟩ := hc
  have w1 : IntKind.u64.wrap (c 11 - c 12) = c 11 - c 12 := wu64 (by omega) (by omega)
  have w2 : IntKind.u64.wrap (c 13 * (c 11 - c 12)) = c 13 * (c 11 - c 12) := wu64 (by omega) (by omega)
  have w3 : IntKind.u64.wrap (c 11 + c 12) = c 11 + c 12 := wu64 (by omega) (by omega)
  have w4 : IntKind.u64.wrap (8 * (c 11 + c 12)) = 8 * (c 11 + c 12) := wu64 (by omega) (by omega)
  have d1 : c 11 ≤ 1048576 := by omega
  have d2 : c 13 ≤ 4294967295 := by omega
  have d3 : c 15 ≤ 4294967295 := by omega
  have d4 : c 16 ≤ 4294967295 := by omega
  simp (disch := omega) [m7]
  refine in25_ok hP (by omega) (by omega) ?_
  simp (disch := omega)
  refine in25_ok hP (by omega) (by omega) ?_
  simp (disch := omega)
  refine in25_ok hP (by omega) (by omega) ?_
  simp (disch := omega)
  refine in25_ok hP (by omega) (by omega) ?_
  simp (disch := omega) [c3m]
  refine in25_ok hP (by omega) (by omega) ?_
  simp (disch := omega)
  refine in25_ok hP (by omega) (by omega) ?_
  simp (disch := omega)
  refine in25_ok hP (by omega) (by omega) ?_
  simp (disch := omega)
  refine in25_ok hP (by omega) (by omega) ?_
  simp (disch := omega)
  refine in25_ok hP (by omega) (by omega) ?_
  simp (disch := omega)
  refine in25_ok hP (by omega) (by omega) ?_
  simp (disch := omega)
  refine in25_ok hP (by omega) (by omega) ?_
  simp (disch := omega) [w1, w2, w3, w4, c11, c12, c13m, c14, c16, d1, d2, d3, d4]
  refine in25_ok hP (by omega) (by omega) ?_
  simp (disch := omega) [c18]
  refine in25_ok hP (by omega) (by omega) ?_
  simp (disch := omega) [c20, c21]
  exact hq _ ⟨by simp only; omega, fun n hn => by simp (disch := omega)⟩

end Go.Sh

namespace Go.Sh
open Go
open Go.Proofs

variable {prim : PrimF} {s : St} {Q : Value → St → Prop} {P : Lay} {ty : Nat → Ty} {ρ : Rho}

abbrev rawV (r : Nat → Int) : Value := .agg #[.int .i64 (r 0), .int .i64 (r 1), .int .i64 (r 2), .int .i64 (r 3), .int .i64 (r 4), .int .i64 (r 5), .int .i64 (r 6), .int .i64 (r 7), .int .i64 (r 8),
    .int .i64 (r 9), .int .i64 (r 10), .int .i64 (r 11), .int .i64 (r 12), .int .i64 (r 13), .int .i64 (r 14), .int .i64 (r 15), .int .i64 (r 16), .int .i64 (r 17), .int .i64 (r 18), .int .i64 (r 19), .int .u64 (r 20), .int .u64 (r 21)]

/-- The config's numbers, one by one. -/
def cOf (l : List Int) (i : Nat) : Int := l.getD i 0

set_option maxRecDepth 100000 in
set_option maxHeartbeats 3200000 in
theorem Config_ok (hP : POnly prim) {r : Nat → Int} (h20 : 0 ≤ r 20 ∧ r 20 < 18446744073709551616) (h21 : 0 ≤ r 21 ∧ r 21 < 18446744073709551616) (hq : ∀ c, CfgOk c → ∀ s', Keep s s' → Q (cfgV c) s') : WC (tE prim) 12 [rawV r] s Q := by
  refine WC_fn (fm12 prim (hP.no _)) rfl ?_
  simp (disch := omega) [m12]
  refine pick_ok hP (by omega) (by omega) fun x0 l0 u0 => ?_
  have e0 : IntKind.i64.wrap (2 + x0) = 2 + x0 := w64 (by omega) (by omega)
  simp (disch := omega) [e0]
  refine pick_ok hP (by omega) (by omega) fun x1 l1 u1 => ?_
  have e1 : IntKind.i64.wrap (1 + x1) = 1 + x1 := w64 (by omega) (by omega)
  simp (disch := omega) [e1]
  refine pick_ok hP (by omega) (by omega) fun x2 l2 u2 => ?_
  have e2 : IntKind.i64.wrap (2 + x2) = 2 + x2 := w64 (by omega) (by omega)
  simp (disch := omega) [e2]
  refine pick_ok hP (by omega) (by omega) fun x3 l3 u3 => ?_
  have e3 : IntKind.i64.wrap (1 + x3) = 1 + x3 := w64 (by omega) (by omega)
  have f3 : IntKind.i64.wrap (16 * (1 + x3)) = 16 * (1 + x3) := w64 (by omega) (by omega)
  simp (disch := omega) [e3, f3]
  refine pick_ok hP (by omega) (by omega) fun x4 l4 u4 => ?_
  have e4 : IntKind.i64.wrap (2 + x4) = 2 + x4 := w64 (by omega) (by omega)
  simp (disch := omega) [e4]
  refine pick_ok hP (by omega) (by omega) fun x5 l5 u5 => ?_
  have e5 : IntKind.i64.wrap (2 + x5) = 2 + x5 := w64 (by omega) (by omega)
  simp (disch := omega) [e5]
  refine pick_ok hP (by omega) (by omega) fun x6 l6 u6 => ?_
  have e6 : IntKind.i64.wrap (1 + x6) = 1 + x6 := w64 (by omega) (by omega)
  simp (disch := omega) [e6]
  refine pick_ok hP (by omega) (by omega) fun x7 l7 u7 => ?_
  have e7 : IntKind.i64.wrap (1 + x7) = 1 + x7 := w64 (by omega) (by omega)
  simp (disch := omega) [e7]
  refine pick_ok hP (by omega) (by omega) fun x8 l8 u8 => ?_
  have e8 : IntKind.i64.wrap (1 + x8) = 1 + x8 := w64 (by omega) (by omega)
  simp (disch := omega) [e8]
  refine pick_ok hP (by omega) (by omega) fun x9 l9 u9 => ?_
  have e9 : IntKind.i64.wrap (4 + x9) = 4 + x9 := w64 (by omega) (by omega)
  simp (disch := omega) [e9]
  refine pick_ok hP (by omega) (by omega) fun x10 l10 u10 => ?_
  have e10 : IntKind.i64.wrap (1 + x10) = 1 + x10 := w64 (by omega) (by omega)
  simp (disch := omega) [e10]
  refine pick_ok hP (by omega) (by omega) fun x11 l11 u11 => ?_
  have e11 : IntKind.i64.wrap (4 + x11) = 4 + x11 := w64 (by omega) (by omega)
  have f11 : IntKind.u64.wrap (4 + x11) = 4 + x11 := wu64 (by omega) (by omega)
  have t11 : (4 + x11).tdiv 2 = (4 + x11) / 2 := Int.tdiv_eq_ediv_of_nonneg (by omega)
  have g11 : IntKind.i64.wrap ((4 + x11) / 2) = (4 + x11) / 2 := w64 (by omega) (by omega)
  simp (disch := omega) [e11, f11, t11, g11]
  refine pick_ok hP (by omega) (by omega) fun x12 l12 u12 => ?_
  have f12 : IntKind.u64.wrap x12 = x12 := wu64 (by omega) (by omega)
  simp (disch := omega) [f12]
  refine pick_ok hP (by omega) (by omega) fun x13 l13 u13 => ?_
  have e13 : IntKind.i64.wrap (40 + x13) = 40 + x13 := w64 (by omega) (by omega)
  have f13 : IntKind.u64.wrap (40 + x13) = 40 + x13 := wu64 (by omega) (by omega)
  have b13 : 0 ≤ (4 + x11) * (40 + x13) ∧ (4 + x11) * (40 + x13) ≤ 6000 := by
    have h1 : (4 + x11) * (40 + x13) ≤ 23 * 239 := Int.mul_le_mul (by omega) (by omega) (by omega) (by omega)
    have h2 : 0 ≤ (4 + x11) * (40 + x13) := Int.mul_nonneg (by omega) (by omega)
    omega
  have g13 : IntKind.u64.wrap ((4 + x11) * (40 + x13)) = (4 + x11) * (40 + x13) := wu64 (by omega) (by omega)
  simp (disch := omega) [e13, f13, g13]
  refine pick_ok hP (by omega) (by omega) fun x14 l14 u14 => ?_
  have e14 : IntKind.i64.wrap (1 + x14) = 1 + x14 := w64 (by omega) (by omega)
  have f14 : IntKind.u64.wrap (1 + x14) = 1 + x14 := wu64 (by omega) (by omega)
  simp (disch := omega) [e14, f14]
  refine pick_ok hP (by omega) (by omega) fun x15 l15 u15 => ?_
  have f15 : IntKind.u64.wrap x15 = x15 := wu64 (by omega) (by omega)
  have g15 : IntKind.u64.wrap (1 + x14 + x15) = 1 + x14 + x15 := wu64 (by omega) (by omega)
  simp (disch := omega) [f15, g15]
  refine pick_ok hP (by omega) (by omega) fun x16 l16 u16 => ?_
  have e16 : IntKind.i64.wrap (1 + x16) = 1 + x16 := w64 (by omega) (by omega)
  have f16 : IntKind.u64.wrap (1 + x16) = 1 + x16 := wu64 (by omega) (by omega)
  have b16 : 1 ≤ (4 + x11) * (1 + x16) ∧ (4 + x11) * (1 + x16) ≤ 6000 := by
    have h1 : (4 + x11) * (1 + x16) ≤ 23 * 60 := Int.mul_le_mul (by omega) (by omega) (by omega) (by omega)
    have h2 : 1 * 1 ≤ (4 + x11) * (1 + x16) := Int.mul_le_mul (by omega) (by omega) (by omega) (by omega)
    omega
  have g16 : IntKind.u64.wrap ((4 + x11) * (1 + x16)) = (4 + x11) * (1 + x16) := wu64 (by omega) (by omega)
  simp (disch := omega) [e16, f16, g16]
  refine pick_ok hP (by omega) (by omega) fun x17 l17 u17 => ?_
  have e17 : IntKind.i64.wrap (1 + x17) = 1 + x17 := w64 (by omega) (by omega)
  have g17 : IntKind.i64.wrap (1 + x17 + 1) = 1 + x17 + 1 := w64 (by omega) (by omega)
  simp (disch := omega) [e17, g17]
  refine pick_ok hP (by omega) (by omega) fun x18 l18 u18 => ?_
  have e18 : IntKind.i64.wrap (1 + x17 + 1 + x18) = 1 + x17 + 1 + x18 := w64 (by omega) (by omega)
  simp (disch := omega) [e18]
  refine pick_ok hP (by omega) (by omega) fun x19 l19 u19 => ?_
  have e19 : IntKind.i64.wrap (1 + x19) = 1 + x19 := w64 (by omega) (by omega)
  have r20 := Int.tmod_lt_of_pos (r 20) (show (0 : Int) < 1000 by decide)
  have r21 := Int.tmod_lt_of_pos (r 21) (show (0 : Int) < 1000 by decide)
  have s20 : 0 ≤ (r 20).tmod 1000 := Int.tmod_nonneg _ h20.1
  have s21 : 0 ≤ (r 21).tmod 1000 := Int.tmod_nonneg _ h21.1
  simp (disch := omega) [e19]
  have hc : CfgOk (cOf [2 + x0, 1 + x1, 2 + x2, 16 * (1 + x3), 2 + x4, 2 + x5, 1 + x6, 1 + x7, 1 + x8, 4 + x9, 1 + x10, 4 + x11, x12, (4 + x11) * (40 + x13), 1 + x14, 1 + x14 + x15, (4 + x11) * (1 + x16), 1 + x17, 1 + x17 + 1 + x18, 1 + x19, (r 20).tmod 1000, (r 21).tmod 1000]) := by
    have hx12 : x12 < (4 + x11) / 2 := u12
    have m1 : (4 + x11) * 40 ≤ (4 + x11) * (40 + x13) := Int.mul_le_mul_of_nonneg_left (by omega) (by omega)
    have m2 : (4 + x11) * (40 + x13) * 1 ≤ (4 + x11) * (40 + x13) * (4 + x11 - x12) := Int.mul_le_mul_of_nonneg_left (by omega) (by omega)
    have m3 : (4 + x11) * (40 + x13) * (4 + x11 - x12) ≤ 6000 * 23 := Int.mul_le_mul (by omega) (by omega) (by omega) (by omega)
    have m4 : (16 * (1 + x3)).tmod 16 = 0 := Int.mul_tmod_right _ _
    exact ⟨show 2 ≤ 2 + x0 ∧ 2 + x0 ≤ 4 by omega, show 1 ≤ 1 + x1 ∧ 1 + x1 ≤ 3 by omega, show 2 ≤ 2 + x2 ∧ 2 + x2 ≤ 5 by omega, show 16 ≤ 16 * (1 + x3) ∧ 16 * (1 + x3) ≤ 128 by omega, m4,
      show 1 ≤ 2 + x4 ∧ 2 + x4 ≤ 64 by omega, show 1 ≤ 2 + x5 ∧ 2 + x5 ≤ 64 by omega, show 1 ≤ 1 + x6 ∧ 1 + x6 ≤ 16 by omega, show 1 ≤ 1 + x7 ∧ 1 + x7 ≤ 8 by omega, show 1 ≤ 1 + x8 ∧ 1 + x8 ≤ 64 by omega,
      show 1 ≤ 4 + x9 ∧ 4 + x9 ≤ 256 by omega, show 1 ≤ 1 + x10 ∧ 1 + x10 ≤ 16 by omega, show 1 ≤ 4 + x11 ∧ 4 + x11 ≤ 1000 by omega, show 0 ≤ x12 ∧ x12 < 4 + x11 by omega,
      show 0 ≤ (4 + x11) * (40 + x13) ∧ (4 + x11) * (40 + x13) ≤ 1000000 by omega,
      show 8 * (4 + x11 + x12) ≤ (4 + x11) * (40 + x13) * (4 + x11 - x12) ∧ (4 + x11) * (40 + x13) * (4 + x11 - x12) ≤ 1000000000 by omega,
      show 1 ≤ 1 + x14 ∧ 1 + x14 ≤ 1 + x14 + x15 by omega, show 1 + x14 + x15 ≤ 1000000 by omega, show 1 ≤ (4 + x11) * (1 + x16) ∧ (4 + x11) * (1 + x16) ≤ 1000000 by omega,
      show 1 ≤ 1 + x17 ∧ 1 + x17 ≤ 38 by omega, show 1 + x17 < 1 + x17 + 1 + x18 ∧ 1 + x17 + 1 + x18 < 40 by omega, show 1 ≤ 1 + x19 ∧ 1 + x19 ≤ 64 by omega,
      show 0 ≤ (r 20).tmod 1000 ∧ (r 20).tmod 1000 ≤ 4611686018427387904 by omega, show 0 ≤ (r 21).tmod 1000 ∧ (r 21).tmod 1000 ≤ 72057594037927935 by omega⟩
  exact hq _ hc _ ⟨by simp only; omega, fun n hn => by simp (disch := omega)⟩

end Go.Sh

namespace Go.Sh
open Go
open Go.Proofs

variable {prim : PrimF} {s : St} {Q : Value → St → Prop} {P : Lay} {ty : Nat → Ty} {ρ : Rho}

theorem repN_map {α : Type} (f : α → Value) (x : α) : ∀ (k : Nat), repN k [f x] = (List.replicate k x).map f
  | 0 => rfl
  | k + 1 => by
    unfold repN
    rw [repN_map f x k, List.replicate_succ]; rfl

noncomputable def mkG (prim : PrimF) (t : Nat) (x : Value) (nm : Option Nat) (s : St) : Option (Value × St) := opRun (tE prim) (fun _ => some x) (gop (.makeSlice t (.tmp 0) (.tmp 0))) nm s

theorem run_mk149 {a : Nat} {nm : Option Nat} : opRun (tE prim) (evO ρ) (gop (.makeSlice 149 (.tmp a) (.tmp a))) nm s = mkG prim 149 (ρ a) nm s := rfl
theorem run_mk306 {a : Nat} {nm : Option Nat} : opRun (tE prim) (evO ρ) (gop (.makeSlice 306 (.tmp a) (.tmp a))) nm s = mkG prim 306 (ρ a) nm s := rfl
theorem run_mk283 {a : Nat} {nm : Option Nat} : opRun (tE prim) (evO ρ) (gop (.makeSlice 283 (.tmp a) (.tmp a))) nm s = mkG prim 283 (ρ a) nm s := rfl
theorem run_mk32 {a : Nat} {nm : Option Nat} : opRun (tE prim) (evO ρ) (gop (.makeSlice 32 (.tmp a) (.tmp a))) nm s = mkG prim 32 (ρ a) nm s := rfl
theorem mkG55_eq {x : Value} {nm : Option Nat} : mkG55 prim x nm s = mkG prim 55 x nm s := rfl

/-- What making needs of a type. -/
structure MkT (prim : PrimF) (t : Nat) (z : List Value) : Prop where
  h : ∃ ti e te, (tE prim).ty.get t = some ti ∧ ti.und = .slice e ∧ (tE prim).ty.get e = some te ∧ te.zero = z ∧ te.bytes ≤ 256 ∧ 0 < te.size ∧ sizeIs te.size te.zero = true

theorem mk149 : MkT prim 149 [.int .i64 0] := ⟨⟨ti149, 3, ti3, rfl, rfl, rfl, rfl, by decide, by decide, rfl⟩⟩
theorem mk306 : MkT prim 306 [.int .u16 0] := ⟨⟨ti306, 346, ti346, rfl, rfl, rfl, rfl, by decide, by decide, rfl⟩⟩
theorem mk283 : MkT prim 283 [.bool false] := ⟨⟨ti283, 4, ti4, rfl, rfl, rfl, rfl, by decide, by decide, rfl⟩⟩
theorem mk32 : MkT prim 32 [.slice none 0 0] := ⟨⟨ti32, 55, ti55, rfl, rfl, rfl, rfl, by decide, by decide, rfl⟩⟩
theorem mk55 : MkT prim 55 [.int .i64 0, .int .u64 0] := ⟨⟨ti55, 54, ti54, rfl, rfl, rfl, rfl, by decide, by decide, rfl⟩⟩

theorem mkG_s {t n : Nat} {z : List Value} {k : Int} (hT : MkT prim t z) (h0 : 0 ≤ k) (h7 : k ≤ 4096) : mkG prim t (.int .i64 k) (some n) s =
    some (.slice (some ⟨n, 0, none⟩) k.toNat k.toNat, { s with heap := s.heap.set n (.cells (repN k.toNat z) none false) }) := by
  obtain ⟨⟨ti, e, te, h1, h2, h3, h4, h5, h6, h8⟩⟩ := hT
  have hb : k.toNat * te.bytes ≤ most := by
    have : k.toNat * te.bytes ≤ 4096 * 256 := Nat.mul_le_mul (by omega) h5
    unfold most; omega
  unfold mkG opRun
  simp only [gop, cls, aalloc, h1, h2, h3]
  rw [if_pos ⟨h0, by omega, by unfold most; omega, hb, h6, h8⟩, h4]

theorem mkG_n {t : Nat} {z : List Value} {k : Int} (hT : MkT prim t z) (h0 : 0 ≤ k) (h7 : k ≤ 4096) : mkG prim t (.int .i64 k) none s =
    some (.slice (some ⟨s.next, 0, none⟩) k.toNat k.toNat, { heap := s.heap.set s.next (.cells (repN k.toNat z) none false), next := s.next + 1 }) := by
  obtain ⟨⟨ti, e, te, h1, h2, h3, h4, h5, h6, h8⟩⟩ := hT
  have hb : k.toNat * te.bytes ≤ most := by
    have : k.toNat * te.bytes ≤ 4096 * 256 := Nat.mul_le_mul (by omega) h5
    unfold most; omega
  unfold mkG opRun
  simp only [gop, cls, aalloc, h1, h2, h3]
  rw [if_pos ⟨h0, by omega, by unfold most; omega, hb, h6, h8⟩, h4]

theorem run_mm192 : opRun (tE prim) (evO ρ) (gop (.makeMap 192 none)) none s = some (.map (some s.next), { heap := s.heap.set s.next (.map [] 0), next := s.next + 1 }) := rfl
theorem run_mm231 : opRun (tE prim) (evO ρ) (gop (.makeMap 231 none)) none s = some (.map (some s.next), { heap := s.heap.set s.next (.map [] 0), next := s.next + 1 }) := rfl
theorem run_mm314 : opRun (tE prim) (evO ρ) (gop (.makeMap 314 none)) none s = some (.map (some s.next), { heap := s.heap.set s.next (.map [] 0), next := s.next + 1 }) := rfl
theorem run_mm315 : opRun (tE prim) (evO ρ) (gop (.makeMap 315 none)) none s = some (.map (some s.next), { heap := s.heap.set s.next (.map [] 0), next := s.next + 1 }) := rfl
theorem eq66 {a : Addr} : eqv0 (tE prim) s 66 (.pointer (some a)) (.pointer none) = some false := rfl
theorem eq200 {a : Addr} : eqv0 (tE prim) s 200 (.pointer (some a)) (.pointer none) = some false := rfl

attribute [simp] run_mk149 run_mk306 run_mk283 run_mk32 run_mm192 run_mm231 run_mm314 run_mm315 eq66 eq200 mkG55_eq

theorem arena_ok (hP : POnly prim) {c : Int} (h1 : 16 ≤ c) (h2 : c ≤ 4096) (hm : c.tmod 16 = 0)
    (hq : ∀ s', Keep s s' → s'.next = s.next + 8 → s'.heap.get (s.next + 5) = some (.cells [.slice (some ⟨s.next + 1, 0, none⟩) (c.tdiv 16).toNat (c.tdiv 16).toNat, .slice (some ⟨s.next + 3, 0, none⟩) (c.tdiv 16).toNat (c.tdiv 16).toNat] none false) →
      s'.heap.get (s.next + 1) = some (.cells ((List.replicate (c.tdiv 16).toNat (0 : Int)).map (.int .i64)) none false) → s'.heap.get (s.next + 3) = some (.cells ((List.replicate (c.tdiv 16).toNat (0 : Int)).map (.int .u16)) none false) →
      Q (.tuple #[.pointer (some ⟨s.next + 5, 0, none⟩), .int .i64 0]) s') : WC (tE prim) 69 [.int .i64 c] s Q := by
  refine WC_fn (fm69 prim (hP.no _)) rfl ?_
  have ht : c.tdiv 16 = c / 16 := Int.tdiv_eq_ediv_of_nonneg (by omega)
  have h16 : 1 ≤ c / 16 ∧ c / 16 ≤ 256 := by omega
  have hw : IntKind.i64.wrap (c / 16) = c / 16 := w64 (by omega) (by omega)
  have e1 : ∀ (s : St) (n : Nat), mkG prim 149 (.int .i64 (c / 16)) (some n) s = _ := fun s n => mkG_s mk149 (by omega) (by omega)
  have e2 : ∀ (s : St) (n : Nat), mkG prim 306 (.int .i64 (c / 16)) (some n) s = _ := fun s n => mkG_s mk306 (by omega) (by omega)
  rw [ht] at hq
  have n1 : ¬ c < 16 := by omega
  have n2 : ¬ 4096 < c := by omega
  simp (disch := omega) [m69, n1, n2, hm, ht, hw, e1, e2, repN_map (.int .i64), repN_map (.int .u16)]
  refine hq _ ?_ ?_ ?_ ?_ ?_
  · exact ⟨by simp only; omega, fun n hn => by simp (disch := omega)⟩
  all_goals simp (disch := omega)

theorem heapNew_ok (hP : POnly prim) {c3 c4 c21 : Int} (h1 : 16 ≤ c3) (h2 : c3 ≤ 4096) (hm : c3.tmod 16 = 0) (h3 : 1 ≤ c4) (h4 : c4 ≤ 64) (h5 : 0 ≤ c21) (h6 : c21 ≤ 72057594037927935)
    (hq : ∀ s', Keep s s' → s'.next = s.next + 10 → s'.heap.get (s.next + 9) = some (.cells [.int .i64 1, .int .i64 c4, .int .u64 c21, .pointer (some ⟨s.next + 5, 0, none⟩), .map (some (s.next + 8))] none false) →
      s'.heap.get (s.next + 8) = some (.map [] 0) →
      s'.heap.get (s.next + 5) = some (.cells [.slice (some ⟨s.next + 1, 0, none⟩) (c3.tdiv 16).toNat (c3.tdiv 16).toNat, .slice (some ⟨s.next + 3, 0, none⟩) (c3.tdiv 16).toNat (c3.tdiv 16).toNat] none false) →
      s'.heap.get (s.next + 1) = some (.cells ((List.replicate (c3.tdiv 16).toNat (0 : Int)).map (.int .i64)) none false) → s'.heap.get (s.next + 3) = some (.cells ((List.replicate (c3.tdiv 16).toNat (0 : Int)).map (.int .u16)) none false) →
      Q (.tuple #[.pointer (some ⟨s.next + 9, 0, none⟩), .int .i64 0]) s') : WC (tE prim) 16 [.int .i64 1, .int .i64 c3, .int .i64 c4, .int .u64 c21] s Q := by
  refine WC_fn (fm16 prim (hP.no _)) rfl ?_
  have n1 : ¬ c4 < 1 := by omega
  have n2 : ¬ 64 < c4 := by omega
  have n3 : ¬ 72057594037927935 < c21 := by omega
  simp (disch := omega) [m16, n1, n2, n3]
  refine arena_ok hP h1 h2 hm fun s1 k1 hn g1 g2 g3 => ?_
  simp (disch := omega)
  have e8 : s1.next = s.next + 8 := hn
  rw [e8]
  refine hq _ ?_ ?_ ?_ ?_ ?_ ?_ ?_
  · exact ⟨by simp only; omega, fun n hn => by simp (disch := omega) [k1.get n hn]⟩
  all_goals simp (disch := omega) [g1, g2, g3]

end Go.Sh

namespace Go.Sh
open Go
open Go.Proofs

variable {prim : PrimF} {s : St} {Q : Value → St → Prop} {P : Lay} {ty : Nat → Ty} {ρ : Rho}

/-- The roots' rows, i of them made. -/
def rowsTo (b : Nat) (sl i mu : Nat) : List Value := (List.range mu).map fun j => if j < i then .slice (some ⟨b + j, 0, none⟩) sl sl else .slice none 0 0

theorem rowsTo_zero {b sl mu : Nat} : rowsTo b sl 0 mu = repN mu [.slice none 0 0] := by
  have := repN_map (fun _ : Unit => Value.slice none 0 0) () mu
  rw [this]
  unfold rowsTo
  simp [List.map_const']

theorem rowsTo_set {b sl i mu : Nat} (h : i < mu) : (rowsTo b sl i mu).set i (.slice (some ⟨b + i, 0, none⟩) sl sl) = rowsTo b sl (i + 1) mu := by
  apply List.ext_getElem
  · simp [rowsTo]
  · intro n h1 h2
    simp only [rowsTo, List.length_map, List.length_range, List.length_set] at h1
    rw [List.getElem_set]
    by_cases e : i = n
    · subst e; simp [rowsTo]
    · rw [if_neg e]
      simp only [rowsTo, List.getElem_map, List.getElem_range]
      by_cases h3 : n < i
      · rw [if_pos h3, if_pos (by omega)]
      · rw [if_neg h3, if_neg (by omega)]

theorem rowsTo_get {b sl mu m : Nat} (h : m < mu) : (rowsTo b sl mu mu)[m]? = some (.slice (some ⟨b + m, 0, none⟩) sl sl) := by
  simp [rowsTo, h]

theorem rootsNew_ok (hP : POnly prim) {mu sl : Nat} (h1 : 1 ≤ mu) (h2 : mu ≤ 4) (h3 : 1 ≤ sl) (h4 : sl ≤ 8)
    (hq : ∀ s', Keep s s' → s'.next = s.next + 2 + mu → s'.heap.get (s.next + 1 + mu) = some (.cells [.slice (some ⟨s.next, 0, none⟩) mu mu] none false) →
      s'.heap.get s.next = some (.cells (rowsTo (s.next + 1) sl mu mu) none false) → (∀ m, m < mu → s'.heap.get (s.next + 1 + m) = some (.cells (idCells (List.replicate sl (0, 0))) none false)) →
      Q (.tuple #[.pointer (some ⟨s.next + 1 + mu, 0, none⟩), .int .i64 0]) s') : WC (tE prim) 17 [.int .i64 mu, .int .i64 sl] s Q := by
  refine WC_fn (fm17 prim (hP.no _)) rfl ?_
  have n1 : ¬ (mu : Int) < 1 := by omega
  have n2 : ¬ 4 < (mu : Int) := by omega
  have n3 : ¬ (sl : Int) < 1 := by omega
  have n4 : ¬ 8 < (sl : Int) := by omega
  have e1 : ∀ (s : St), mkG prim 32 (.int .i64 mu) none s = _ := fun s => mkG_n mk32 (by omega) (by omega)
  have e2 : ∀ (s : St), mkG prim 55 (.int .i64 sl) none s = _ := fun s => mkG_n mk55 (by omega) (by omega)
  simp (disch := omega) [m17, n1, n2, n3, n4, e1]
  refine loop_rule (fun m ρ s' => ∃ i : Nat, i ≤ mu ∧ mu - i ≤ m ∧ s'.next = s.next + 1 + i ∧ (∀ n, n < s.next → s'.heap.get n = s.heap.get n) ∧ s'.heap.get s.next = some (.cells (rowsTo (s.next + 1) sl i mu) none false) ∧
    (∀ j, j < i → s'.heap.get (s.next + 1 + j) = some (.cells (idCells (List.replicate sl (0, 0))) none false)) ∧ ρ 1 = .int .i64 sl ∧ ρ 6 = .slice (some ⟨s.next, 0, none⟩) mu mu ∧ ρ 25 = .int .i64 mu ∧ ρ 26 = .int .i64 i) ?_ mu ?_
  · rintro m ρ s1 ⟨i, hi, hm, hn, hk, hr, hj, q1, q6, q25, q26⟩
    by_cases hlt : i < mu
    · have hlt' : (i : Int) < mu := by omega
      have hw : IntKind.i64.wrap ((i : Int) + 1) = i + 1 := w64 (by omega) (by omega)
      have hset : setN (rowsTo (s.next + 1) sl i mu) i [.slice (some ⟨s.next + 1 + i, 0, none⟩) sl sl] = some (rowsTo (s.next + 1) sl (i + 1) mu) := by
        rw [setN_one (by simp [rowsTo, hlt]), rowsTo_set hlt]
      simp (disch := omega) [q1, q6, q25, q26, hlt', e2, hw, hn, hr, hset, repN_ids]
      refine ⟨m - 1, by omega, i + 1, by omega, by omega, by omega, fun n hn => ?_, ?_, fun j hj' => ?_, by simp⟩
      · simp (disch := omega) [hk n hn]
      · simp (disch := omega)
      · by_cases e : j = i
        · subst e; simp (disch := omega)
        · have : j < i := by omega
          simp (disch := omega) [hj j this]
    · have hlt' : ¬ (i : Int) < mu := by omega
      have : i = mu := by omega
      subst this
      simp (disch := omega) [q6, q25, q26, hlt']
      rw [hn]
      refine hq _ ?_ ?_ ?_ ?_ ?_
      · exact ⟨by simp only; omega, fun n hn => by simp (disch := omega) [hk n hn]⟩
      · simp only; omega
      · simp (disch := omega)
      · simp (disch := omega) [hr]
      · intro m hm; simp (disch := omega) [hj m hm]
  · simp (disch := omega)
    exact ⟨0, Nat.zero_le _, rfl, fun n hn => by simp (disch := omega), rowsTo_zero.symm, fun j hj => absurd hj (by omega), rfl⟩

theorem clockNew_ok (hP : POnly prim) {x : Int} (h : x ≤ 4611686018427387904) (hq : Q (.tuple #[.pointer (some ⟨s.next, 0, none⟩), .int .i64 0]) ⟨s.heap.set s.next (.cells [.int .u64 x] none false), s.next + 1⟩) : WC (tE prim) 18 [.int .u64 x] s Q := by
  refine WC_fn (fm18 prim (hP.no _)) rfl ?_
  have n1 : ¬ 4611686018427387904 < x := by omega
  simp (disch := omega) [m18, n1]
  exact hq

theorem shakeNew_ok (hP : POnly prim) {x : Int} (h1 : 1 ≤ x) (h2 : x ≤ 4)
    (hq : ∀ a b s', Keep s s' → s'.next = s.next + 10 → s'.heap.get (s.next + 7) = some (.cells [.int .i64 0, a, b] none false) → Q (.tuple #[.pointer (some ⟨s.next + 7, 0, none⟩), .int .i64 0]) s') : WC (tE prim) 70 [.int .i64 x] s Q := by
  refine WC_fn (fm70 prim (hP.no _)) rfl ?_
  have n1 : ¬ x < 1 := by omega
  have n2 : ¬ 4 < x := by omega
  have hw : IntKind.i64.wrap (x + 1) = x + 1 := w64 (by omega) (by omega)
  have e1 : ∀ (s : St) (n : Nat), mkG prim 283 (.int .i64 (x + 1)) (some n) s = _ := fun s n => mkG_s mk283 (by omega) (by omega)
  simp (disch := omega) [m70, n1, n2, hw, e1]
  refine hq (.slice (some ⟨s.next + 2, 0, none⟩) (x + 1).toNat (x + 1).toNat) (.slice (some ⟨s.next + 5, 0, none⟩) (x + 1).toNat (x + 1).toNat) _ ?_ ?_ ?_
  · exact ⟨by simp only; omega, fun n hn => by simp (disch := omega)⟩
  · rfl
  · simp (disch := omega)

theorem greyNew_ok (hP : POnly prim) {x : Int} (h1 : 1 ≤ x) (h2 : x ≤ 64) (hq : ∀ s', Keep s s' → s'.next = s.next + 1 → Q (.tuple #[.pointer (some ⟨s.next, 0, none⟩), .int .i64 0]) s') : WC (tE prim) 124 [.int .i64 x] s Q := by
  refine WC_fn (fm124 prim (hP.no _)) rfl ?_
  have n1 : ¬ x < 1 := by omega
  have n2 : ¬ 64 < x := by omega
  simp (disch := omega) [m124, n1, n2]
  exact hq _ ⟨by simp only; omega, fun n hn => by simp (disch := omega)⟩ rfl

theorem paintNew_ok (hP : POnly prim) {a : Addr} {x : Int} (h1 : 1 ≤ x) (h2 : x ≤ 64) (hq : ∀ r s', Keep s s' → Q (.tuple #[.pointer (some ⟨r, 0, none⟩), .int .i64 0]) s') : WC (tE prim) 71 [.pointer (some a), .int .i64 x] s Q := by
  refine WC_fn (fm71 prim (hP.no _)) rfl ?_
  simp (disch := omega) [m71]
  refine greyNew_ok hP h1 h2 fun s1 k1 hn => ?_
  simp (disch := omega)
  exact hq _ _ ⟨by simp only; omega, fun n hn => by simp (disch := omega) [k1.get n hn]⟩

theorem Node_ok (hP : POnly prim) {n : Nat} {row : List Value} {x : Int} (hg : s.heap.get n = some (.cells row none false)) (h0 : row[0]? = some (.int .i64 x)) (hq : Q (.int .i64 x) s) : WC (tE prim) 72 [.pointer (some ⟨n, 0, none⟩)] s Q := by
  refine WC_fn (fm72 prim (hP.no _)) rfl ?_
  simp (disch := omega) [m72, hg, h0]
  exact hq

theorem markNew_ok (hP : POnly prim) {a b : Addr} (hq : ∀ r s', Keep s s' → Q (.tuple #[.pointer (some ⟨r, 0, none⟩), .int .i64 0]) s') : WC (tE prim) 73 [.pointer (some a), .pointer (some b)] s Q := by
  refine WC_fn (fm73 prim (hP.no _)) rfl ?_
  simp (disch := omega) [m73]
  exact hq _ _ ⟨by simp only; omega, fun n hn => by simp (disch := omega)⟩

theorem reachNew_ok (hP : POnly prim) {a b : Addr} (hq : ∀ r s', Keep s s' → Q (.tuple #[.pointer (some ⟨r, 0, none⟩), .int .i64 0]) s') : WC (tE prim) 74 [.pointer (some a), .pointer (some b)] s Q := by
  refine WC_fn (fm74 prim (hP.no _)) rfl ?_
  simp (disch := omega) [m74]
  exact hq _ _ ⟨by simp only; omega, fun n hn => by simp (disch := omega)⟩

theorem Last_ok (hP : POnly prim) {n : Nat} {row : List Value} {x : Int} (hg : s.heap.get n = some (.cells row none false)) (h0 : row[2]? = some (.int .u64 x)) (hq : Q (.int .u64 x) s) : WC (tE prim) 148 [.pointer (some ⟨n, 0, none⟩)] s Q := by
  refine WC_fn (fm148 prim (hP.no _)) rfl ?_
  simp (disch := omega) [m148, hg, h0]
  exact hq

theorem sweepBegin_ok (hP : POnly prim) {n h : Nat} {b : Value} {y z x : Int} {row : List Value} (hg : s.heap.get n = some (.cells [.pointer (some ⟨h, 0, none⟩), b, .int .u64 y, .int .u64 z] none false)) (hh : s.heap.get h = some (.cells row none false)) (h0 : row[2]? = some (.int .u64 x))
    (hq : ∀ s', s.next ≤ s'.next → (∀ m, m ≠ n → s'.heap.get m = s.heap.get m) → Q (.tuple #[]) s') : WC (tE prim) 125 [.pointer (some ⟨n, 0, none⟩)] s Q := by
  refine WC_fn (fm125 prim (hP.no _)) rfl ?_
  simp (disch := omega) [m125, hg]
  refine Last_ok hP hh h0 ?_
  simp (disch := omega) [hg]
  exact hq _ (Nat.le_refl _) fun m hm => by simp (disch := omega) [hm]

theorem sweepNew_ok (hP : POnly prim) {n : Nat} {b : Addr} {row : List Value} {x : Int} (hn : n < s.next) (hg : s.heap.get n = some (.cells row none false)) (h0 : row[2]? = some (.int .u64 x)) (hq : ∀ r s', Keep s s' → Q (.tuple #[.pointer (some ⟨r, 0, none⟩), .int .i64 0]) s') :
    WC (tE prim) 75 [.pointer (some ⟨n, 0, none⟩), .pointer (some b)] s Q := by
  refine WC_fn (fm75 prim (hP.no _)) rfl ?_
  simp (disch := omega) [m75]
  refine sweepBegin_ok hP (n := s.next) (b := .pointer (some b)) (y := 0) (z := 0) (h := n) (by simp) (row := row) (by simp (disch := omega) [hg]) h0 fun s1 h1 h2 => ?_
  simp only at h1
  simp (disch := omega)
  exact hq _ _ ⟨by omega, fun n hn => by rw [h2 n (by omega)]; simp (disch := omega)⟩

end Go.Sh

namespace Go.Sh
open Go
open Go.Proofs

variable {prim : PrimF} {s : St} {Q : Value → St → Prop} {P : Lay} {ty : Nat → Ty} {ρ : Rho}

theorem cycleNew_ok (hP : POnly prim) {n : Nat} {row : List Value} {x c1 c8 c17 c19 nd : Int} (hn : n < s.next) (hg : s.heap.get n = some (.cells row none false)) (h0 : row[0]? = some (.int .i64 nd)) (h2 : row[2]? = some (.int .u64 x))
    (a1 : 1 ≤ c1 ∧ c1 ≤ 4) (a8 : 1 ≤ c8 ∧ c8 ≤ 64) (a17 : 0 ≤ c17 ∧ c17 ≤ 40) (a19 : 1 ≤ c19 ∧ c19 ≤ 64)
    (hq : ∀ r t row shr s', Keep s s' → s.next ≤ t → t < r → r < s'.next → s'.heap.get r = some (.cells row none false) → s'.heap.get t = some (.cells shr none false) → row[0]? = some (.pointer (some ⟨t, 0, none⟩)) → row[7]? = some (.int .i64 0) → shr[0]? = some (.int .i64 0) →
      Q (.tuple #[.pointer (some ⟨r, 0, none⟩), .int .i64 0]) s') : WC (tE prim) 19 [.pointer (some ⟨n, 0, none⟩), .int .i64 c1, .int .i64 c8, .int .i64 c17, .int .i64 c19] s Q := by
  refine WC_fn (fm19 prim (hP.no _)) rfl ?_
  have n1 : ¬ c17 < 0 := by omega
  have n2 : ¬ 40 < c17 := by omega
  have n3 : ¬ c19 < 1 := by omega
  have n4 : ¬ 64 < c19 := by omega
  simp (disch := omega) [m19, n1, n2, n3, n4]
  refine shakeNew_ok hP a1.1 a1.2 fun a b s1 k1 hn1 g1 => ?_
  simp (disch := omega)
  refine paintNew_ok hP a8.1 a8.2 fun r2 s2 k2 => ?_
  have n2' := k2.next
  have hg2 := ((k1.trans k2).get n hn).trans hg
  simp (disch := omega)
  refine Node_ok hP hg2 h0 ?_
  simp (disch := omega)
  have ks : ∀ s3 : St, s2.next + 1 ≤ s3.next → (∀ m, m < s2.next → s3.heap.get m = s2.heap.get m) → Keep s s3 ∧ s3.heap.get (s.next + 7) = s1.heap.get (s.next + 7) := fun s3 h1 h2 =>
    ⟨⟨by omega, fun m hm => by rw [h2 m (by omega), (k1.trans k2).get m hm]⟩, by rw [h2 _ (by omega), k2.get _ (by omega)]⟩
  refine markNew_ok hP fun r3 s3 k3 => ?_
  have n3' := k3.next
  simp only at n3'
  have g3 := k3.get s2.next (by simp only; omega)
  simp (disch := omega) at g3
  simp (disch := omega) [g3]
  refine reachNew_ok hP fun r4 s4 k4 => ?_
  have n4' := k4.next
  simp only at n4'
  have g4 := k4.get s2.next (by simp only; omega)
  simp (disch := omega) at g4
  have l4 : ∀ m, m < s2.next → s4.heap.get m = s2.heap.get m := fun m hm => by
    rw [k4.get m (by simp only; omega)]
    simp (disch := omega) only [get_other]
    rw [k3.get m (by simp only; omega)]
    simp (disch := omega) only [get_other]
  simp (disch := omega) [g4]
  refine sweepNew_ok hP (row := row) (x := x) (by simp only; omega) (by simp (disch := omega) [l4 n (by omega), hg2]) h2 fun r5 s5 k5 => ?_
  have n5' := k5.next
  simp only at n5'
  have g5 := k5.get s2.next (by simp only; omega)
  simp (disch := omega) at g5
  have l5 : ∀ m, m < s2.next → s5.heap.get m = s2.heap.get m := fun m hm => by
    rw [k5.get m (by simp only; omega)]
    simp (disch := omega) only [get_other]
    exact l4 m hm
  simp (disch := omega) [g5]
  have fin := ks ⟨s5.heap.set s2.next (.cells [.pointer (some ⟨s.next + 7, 0, none⟩), .pointer (some ⟨n, 0, none⟩), .pointer (some ⟨r2, 0, none⟩), .pointer (some ⟨r3, 0, none⟩), .pointer (some ⟨r4, 0, none⟩), .pointer (some ⟨r5, 0, none⟩), .int .i64 nd, .int .i64 0, .int .i64 c17, .int .i64 c19,
    .int .u64 0, .int .u64 0, .int .u64 0, .slice none 0 0, .slice none 0 0, .bool false] none false), s5.next⟩ (by simp only; omega) (fun m hm => by simp only; rw [get_other (by omega), l5 m hm])
  refine hq s2.next (s.next + 7) _ _ _ fin.1 (by omega) (by omega) (by simp only; omega) (by simp only; exact get_same) (fin.2.trans g1) rfl rfl rfl

theorem tabStub_ok (hP : POnly prim) {x : Int} (h1 : 1 ≤ x) (h2 : x ≤ 4096) (hq : Q (.tuple #[.pointer (some ⟨s.next, 0, none⟩), .int .i64 0]) ⟨s.heap.set s.next (.cells [.slice none 0 0, .slice none 0 0, .int .i64 x] none false), s.next + 1⟩) : WC (tE prim) 76 [.int .i64 x] s Q := by
  refine WC_fn (fm76 prim (hP.no _)) rfl ?_
  have n1 : ¬ x < 1 := by omega
  have n2 : ¬ 4096 < x := by omega
  simp (disch := omega) [m76, n1, n2]
  exact hq
theorem tabScion_ok (hP : POnly prim) {x : Int} (h1 : 1 ≤ x) (h2 : x ≤ 4096) (hq : Q (.tuple #[.pointer (some ⟨s.next, 0, none⟩), .int .i64 0]) ⟨s.heap.set s.next (.cells [.slice none 0 0, .slice none 0 0, .int .i64 x] none false), s.next + 1⟩) : WC (tE prim) 78 [.int .i64 x] s Q := by
  refine WC_fn (fm78 prim (hP.no _)) rfl ?_
  have n1 : ¬ x < 1 := by omega
  have n2 : ¬ 4096 < x := by omega
  simp (disch := omega) [m78, n1, n2]
  exact hq
theorem tabCall_ok (hP : POnly prim) {x : Int} (h1 : 1 ≤ x) (h2 : x ≤ 4096) (hq : Q (.tuple #[.pointer (some ⟨s.next, 0, none⟩), .int .i64 0]) ⟨s.heap.set s.next (.cells [.slice none 0 0, .slice none 0 0, .int .i64 x] none false), s.next + 1⟩) : WC (tE prim) 79 [.int .i64 x] s Q := by
  refine WC_fn (fm79 prim (hP.no _)) rfl ?_
  have n1 : ¬ x < 1 := by omega
  have n2 : ¬ 4096 < x := by omega
  simp (disch := omega) [m79, n1, n2]
  exact hq
theorem tabServed_ok (hP : POnly prim) {x : Int} (h1 : 1 ≤ x) (h2 : x ≤ 4096) (hq : Q (.tuple #[.pointer (some ⟨s.next, 0, none⟩), .int .i64 0]) ⟨s.heap.set s.next (.cells [.slice none 0 0, .slice none 0 0, .int .i64 x] none false), s.next + 1⟩) : WC (tE prim) 80 [.int .i64 x] s Q := by
  refine WC_fn (fm80 prim (hP.no _)) rfl ?_
  have n1 : ¬ x < 1 := by omega
  have n2 : ¬ 4096 < x := by omega
  simp (disch := omega) [m80, n1, n2]
  exact hq

theorem Holder_ok (hP : POnly prim) {a b c : Int} (h1 : 1 ≤ b ∧ b ≤ 1048576) (h2 : 0 ≤ c ∧ c < b) (h3 : a ≤ 4294967295) (hq : ∀ r, Q (.tuple #[.int .u64 r, .int .i64 0]) s) : WC (tE prim) 77 [.int .u64 a, .int .u64 b, .int .u64 c] s Q := by
  refine WC_fn (fm77 prim (hP.no _)) rfl ?_
  have n1 : ¬ b < 1 := by omega
  have n2 : ¬ 1048576 < b := by omega
  have n3 : ¬ b ≤ c := by omega
  have n4 : ¬ 4294967295 < a := by omega
  have hw : IntKind.u64.wrap (b + c) = b + c := wu64 (by omega) (by omega)
  have hz : b + c ≠ 0 := by omega
  simp (disch := omega) [m77, n1, n2, n3, n4, hw, hz]
  exact hq _

theorem stubNew_ok (hP : POnly prim) {c : Nat → Int} (hc : CfgOk c)
    (hq : ∀ r t s', Keep s s' → s.next ≤ t → t < r → r < s'.next → (∃ row, s'.heap.get r = some (.cells row none false) ∧ row[0]? = some (.pointer (some ⟨t, 0, none⟩))) → s'.heap.get t = some (.cells [.slice none 0 0, .slice none 0 0, .int .i64 (c 5)] none false) →
      Q (.tuple #[.pointer (some ⟨r, 0, none⟩), .int .i64 0]) s') : WC (tE prim) 20 [cfgV c, .int .i64 1, .int .u64 (c 21)] s Q := by
  refine WC_fn (fm20 prim (hP.no _)) rfl ?_
  have n1 : ¬ c 0 < 1 := by have := hc.c0; omega
  have n2 : ¬ 72057594037927935 < c 21 := by have := hc.c21; omega
  have k0 : Keep s ⟨s.heap.set s.next (.cells (cfgL c) none false), s.next + 1⟩ := ⟨by simp only; omega, fun n hn => by simp (disch := omega)⟩
  simp (disch := omega) [m20]
  refine may_ok hP hc fun s1 k1 => ?_
  have e1 := k1.next
  simp only at e1
  have g1 := k1.get s.next (by simp only; omega)
  simp (disch := omega) at g1
  have kk := k0.trans k1
  simp (disch := omega) [g1, n1, n2]
  refine tabStub_ok hP (by have := hc.c5; omega) (by have := hc.c5; omega) ?_
  simp (disch := omega) [g1]
  refine Holder_ok hP (by have := hc.c11; omega) (by have := hc.c12; omega) (by have := hc.c13; omega) fun z => ?_
  simp (disch := omega) [g1]
  refine hq (s1.next + 1) s1.next _ ?_ ?_ ?_ ?_ ?_ ?_
  · exact ⟨by simp only; omega, fun n hn => by simp (disch := omega) [kk.get n hn]⟩
  · omega
  · omega
  · simp only; omega
  · exact ⟨_, get_same, rfl⟩
  · simp (disch := omega)

theorem scionNew_ok (hP : POnly prim) {c : Nat → Int} (hc : CfgOk c) {n : Nat} {row : List Value} (hn : n < s.next) (hg : s.heap.get n = some (.cells row none false)) (h0 : row[0]? = some (.int .i64 1))
    (hq : ∀ r t m s', Keep s s' → s.next ≤ t → t < m → m < r → r < s'.next → (∃ row, s'.heap.get r = some (.cells row none false) ∧ row[23]? = some (.pointer (some ⟨t, 0, none⟩)) ∧ row[24]? = some (.map (some m))) → (∃ x, s'.heap.get t = some (.cells [.slice none 0 0, .slice none 0 0, x] none false)) →
      s'.heap.get m = some (.map [] 0) → Q (.tuple #[.pointer (some ⟨r, 0, none⟩), .int .i64 0]) s') : WC (tE prim) 21 [cfgV c, .pointer (some ⟨n, 0, none⟩)] s Q := by
  refine WC_fn (fm21 prim (hP.no _)) rfl ?_
  have n1 : ¬ c 0 < 1 := by have := hc.c0; omega
  have k0 : Keep s ⟨s.heap.set s.next (.cells (cfgL c) none false), s.next + 1 + 14⟩ := ⟨by simp only; omega, fun n hn => by simp (disch := omega)⟩
  simp (disch := omega) [m21]
  refine may_ok hP hc fun s1 k1 => ?_
  have e1 := k1.next
  simp only at e1
  have g1 := k1.get s.next (by simp only; omega)
  simp (disch := omega) at g1
  have kk := k0.trans k1
  simp (disch := omega) [g1, n1]
  refine Node_ok hP ((kk.get n hn).trans hg) h0 ?_
  simp (disch := omega) [g1, n1]
  refine tabScion_ok hP (by decide) (by decide) ?_
  simp (disch := omega) [g1]
  refine hq (s1.next + 1 + 1) s1.next (s1.next + 1) _ ?_ ?_ ?_ ?_ ?_ ?_ ?_ ?_
  · exact ⟨by simp only; omega, fun n hn => by simp (disch := omega) [kk.get n hn]⟩
  · omega
  · omega
  · omega
  · simp only; omega
  · exact ⟨_, get_same, rfl, rfl⟩
  · exact ⟨.int .i64 4096, by simp (disch := omega)⟩
  · simp (disch := omega)

end Go.Sh

namespace Go.Sh
open Go
open Go.Proofs

variable {prim : PrimF} {s : St} {Q : Value → St → Prop} {P : Lay} {ty : Nat → Ty} {ρ : Rho}

theorem setN_val {f : Int → Value} {xs : List Int} {off : Nat} {y : Int} (h : off < xs.length) : setN (xs.map f) off [f y] = some ((xs.set off y).map f) := setN_map h

theorem traceNew_ok (hP : POnly prim) {c : Nat → Int} (hc : CfgOk c)
    (hq : ∀ r s', Keep s s' → s.next ≤ r → r < s'.next → (∃ row, s'.heap.get r = some (.cells row none false) ∧ (∃ x, row[23]? = some (.int .u64 x)) ∧ (∃ x, row[24]? = some (.int .i64 x))) → Q (.tuple #[.pointer (some ⟨r, 0, none⟩), .int .i64 0]) s') : WC (tE prim) 24 [cfgV c, .int .i64 1, .int .u64 (c 21)] s Q := by
  refine WC_fn (fm24 prim (hP.no _)) rfl ?_
  have n1 : ¬ c 0 < 1 := by have := hc.c0; omega
  have n2 : ¬ 72057594037927935 < c 21 := by have := hc.c21; omega
  have k0 : Keep s ⟨s.heap.set s.next (.cells (cfgL c) none false), s.next + 1⟩ := ⟨by simp only; omega, fun n hn => by simp (disch := omega)⟩
  simp (disch := omega) [m24]
  refine may_ok hP hc fun s1 k1 => ?_
  have e1 := k1.next
  simp only at e1
  have g1 := k1.get s.next (by simp only; omega)
  simp (disch := omega) at g1
  have kk := k0.trans k1
  simp (disch := omega) [g1, n1, n2]
  refine hq s1.next _ ?_ ?_ ?_ ?_
  · exact ⟨by simp only; omega, fun n hn => by simp (disch := omega) [kk.get n hn]⟩
  · omega
  · simp only; omega
  · exact ⟨_, get_same, ⟨_, rfl⟩, ⟨_, rfl⟩⟩

theorem callerNew_ok (hP : POnly prim) {c : Nat → Int} (hc : CfgOk c)
    (hq : ∀ r t l s', Keep s s' → s.next ≤ t → t < l → l < r → r < s'.next →
      s'.heap.get r = some (.cells (cfgL c ++ [.int .i64 1, .int .u64 (c 21), .slice (some ⟨l, 0, none⟩) (c 0 + 1).toNat (c 0 + 1).toNat, .pointer (some ⟨t, 0, none⟩), .int .u64 0]) none false) →
      s'.heap.get t = some (.cells [.slice none 0 0, .slice none 0 0, .int .i64 (c 6)] none false) → (∃ xs : List Int, xs.length = (c 0 + 1).toNat ∧ s'.heap.get l = some (.cells (xs.map (.int .u64)) none false)) →
      Q (.tuple #[.pointer (some ⟨r, 0, none⟩), .int .i64 0]) s') : WC (tE prim) 22 [cfgV c, .int .i64 1, .int .u64 (c 21)] s Q := by
  refine WC_fn (fm22 prim (hP.no _)) rfl ?_
  have h0 := hc.c0
  have n1 : ¬ c 0 < 1 := by omega
  have n2 : ¬ 72057594037927935 < c 21 := by have := hc.c21; omega
  have hw : IntKind.i64.wrap (c 0 + 1) = c 0 + 1 := w64 (by omega) (by omega)
  have k0 : Keep s ⟨s.heap.set s.next (.cells (cfgL c) none false), s.next + 1⟩ := ⟨by simp only; omega, fun n hn => by simp (disch := omega)⟩
  simp (disch := omega) [m22]
  refine may_ok hP hc fun s1 k1 => ?_
  have e1 := k1.next
  simp only at e1
  have g1 := k1.get s.next (by simp only; omega)
  simp (disch := omega) at g1
  have kk := k0.trans k1
  simp (disch := omega) [g1, n1, n2]
  refine tabCall_ok hP (by have := hc.c6; omega) (by have := hc.c6; omega) ?_
  have e2 : ∀ (s : St) (n : Nat), mkG36 prim (.int .i64 (c 0 + 1)) (some n) s = _ := fun s n => mkG36_ok (by omega) (by omega)
  have hmx : max (c 0 + 1) 0 = c 0 + 1 := by omega
  simp (disch := omega) [g1, hw, e2, hmx]
  generalize hs2 : (St.mk _ _) = s2
  have hn2 : s2.next = s1.next + 1 + 11 := by rw [← hs2]
  have hk2 : ∀ n, n < s.next → s2.heap.get n = s.heap.get n := fun n hn => by rw [← hs2]; simp (disch := omega) [kk.get n hn]
  have ht2 : s2.heap.get s1.next = some (.cells [.slice none 0 0, .slice none 0 0, .int .i64 (c 6)] none false) := by rw [← hs2]; simp (disch := omega)
  have hr2 : s2.heap.get (s1.next + 1 + 9) = some (.cells (cfgL c ++ [.int .i64 1, .int .u64 (c 21), .slice (some ⟨s1.next + 1 + 6, 0, none⟩) (c 0 + 1).toNat (c 0 + 1).toNat, .pointer (some ⟨s1.next, 0, none⟩), .int .u64 0]) none false) := by
    rw [← hs2]; simp (disch := omega)
  have hl2 : ∃ xs : List Int, xs.length = (c 0 + 1).toNat ∧ s2.heap.get (s1.next + 1 + 6) = some (.cells (xs.map (.int .u64)) none false) := ⟨List.replicate (c 0 + 1).toNat 0, by simp, by rw [← hs2]; simp (disch := omega)⟩
  refine loop_rule (fun m ρ s' => ∃ i : Nat, i ≤ (c 0 + 1).toNat ∧ (c 0 + 1).toNat - i ≤ m ∧ s'.next = s2.next ∧ (∀ n, n ≠ s1.next + 1 + 6 → s'.heap.get n = s2.heap.get n) ∧ (∃ xs : List Int, xs.length = (c 0 + 1).toNat ∧ s'.heap.get (s1.next + 1 + 6) = some (.cells (xs.map (.int .u64)) none false)) ∧
    ρ 2 = .int .u64 (c 21) ∧ ρ 10 = .pointer (some ⟨s1.next + 1 + 9, 0, none⟩) ∧ ρ 51 = .int .i64 (c 0 + 1) ∧ ρ 52 = .int .i64 i) ?_ (c 0 + 1).toNat ?_
  · rintro m ρ s3 ⟨i, hi, hm, hn, hk, ⟨xs, hxl, hx⟩, q2, q10, q51, q52⟩
    have hr3 := (hk (s1.next + 1 + 9) (by omega)).trans hr2
    by_cases hlt : i < (c 0 + 1).toNat
    · have hlt' : (i : Int) < c 0 + 1 := by omega
      have hw : IntKind.i64.wrap ((i : Int) + 1) = i + 1 := w64 (by omega) (by omega)
      have hset := setN_map (f := .int .u64) (xs := xs) (off := i) (y := c 21) (by omega)
      simp (disch := omega) [q2, q10, q51, q52, hlt', hr3, hx, hset, hw]
      refine ⟨m - 1, by omega, i + 1, by omega, by omega, hn, fun n hn => ?_, ⟨xs.set i (c 21), by simp [hxl], ?_⟩, by simp⟩
      · simp (disch := omega) [hn, hk n hn]
      · simp [List.map_set]
    · have hlt' : ¬ (i : Int) < c 0 + 1 := by omega
      simp (disch := omega) [q2, q10, q51, q52, hlt']
      refine hq (s1.next + 1 + 9) s1.next (s1.next + 1 + 6) s3 ?_ ?_ ?_ ?_ ?_ hr3 ?_ ⟨xs, hxl, hx⟩
      · exact ⟨by omega, fun n hn => by rw [hk n (by omega), hk2 n hn]⟩
      all_goals first | omega | skip
      rw [hk _ (by omega), ht2]
  · simp (disch := omega) [hmx]
    exact ⟨0, by omega, by omega, hl2, rfl⟩

theorem serverOpen_ok (hP : POnly prim) {c : Nat → Int} (hc : CfgOk c)
    (hq : ∀ r t s', Keep s s' → s.next ≤ t → t < r → r < s'.next → (∃ row, s'.heap.get r = some (.cells row none false) ∧ row[24]? = some (.pointer (some ⟨t, 0, none⟩))) →
      (∃ x, s'.heap.get t = some (.cells [.slice none 0 0, .slice none 0 0, x] none false)) → Q (.tuple #[.pointer (some ⟨r, 0, none⟩), .int .i64 0]) s') : WC (tE prim) 23 [cfgV c, .int .i64 1] s Q := by
  refine WC_fn (fm23 prim (hP.no _)) rfl ?_
  have h0 := hc.c0
  have n1 : ¬ c 0 < 1 := by omega
  have hw : IntKind.i64.wrap (c 0 + 1) = c 0 + 1 := w64 (by omega) (by omega)
  have k0 : Keep s ⟨s.heap.set s.next (.cells (cfgL c) none false), s.next + 1⟩ := ⟨by simp only; omega, fun n hn => by simp (disch := omega)⟩
  simp (disch := omega) [m23]
  refine may_ok hP hc fun s1 k1 => ?_
  have e1 := k1.next
  simp only at e1
  have g1 := k1.get s.next (by simp only; omega)
  simp (disch := omega) at g1
  have kk := k0.trans k1
  simp (disch := omega) [g1, n1]
  refine tabServed_ok hP (by decide) (by decide) ?_
  have e2 : ∀ (s : St) (n : Nat), mkG36 prim (.int .i64 (c 0 + 1)) (some n) s = _ := fun s n => mkG36_ok (by omega) (by omega)
  have hmx : max (c 0 + 1) 0 = c 0 + 1 := by omega
  simp (disch := omega) [g1, hw, e2, hmx]
  generalize hs2 : (St.mk _ _) = s2
  have hn2 : s2.next = s1.next + 1 + 10 := by rw [← hs2]
  have hk2 : ∀ n, n < s.next → s2.heap.get n = s.heap.get n := fun n hn => by rw [← hs2]; simp (disch := omega) [kk.get n hn]
  have ht2 : s2.heap.get s1.next = some (.cells [.slice none 0 0, .slice none 0 0, .int .i64 512] none false) := by rw [← hs2]; simp (disch := omega)
  have hr2 : s2.heap.get (s1.next + 1 + 8) = some (.cells (cfgL c ++ [.int .i64 1, .slice (some ⟨s1.next + 1 + 5, 0, none⟩) (c 0 + 1).toNat (c 0 + 1).toNat, .pointer (some ⟨s1.next, 0, none⟩), .int .u64 0]) none false) := by
    rw [← hs2]; simp (disch := omega)
  have hl2 : ∃ xs : List Int, xs.length = (c 0 + 1).toNat ∧ s2.heap.get (s1.next + 1 + 5) = some (.cells (xs.map (.int .u64)) none false) := ⟨List.replicate (c 0 + 1).toNat 0, by simp, by rw [← hs2]; simp (disch := omega)⟩
  refine loop_rule (fun m ρ s' => ∃ i : Nat, i ≤ (c 0 + 1).toNat ∧ (c 0 + 1).toNat - i ≤ m ∧ s'.next = s2.next ∧ (∀ n, n ≠ s1.next + 1 + 5 → s'.heap.get n = s2.heap.get n) ∧ (∃ xs : List Int, xs.length = (c 0 + 1).toNat ∧ s'.heap.get (s1.next + 1 + 5) = some (.cells (xs.map (.int .u64)) none false)) ∧
    ρ 8 = .pointer (some ⟨s1.next + 1 + 8, 0, none⟩) ∧ ρ 42 = .int .i64 (c 0 + 1) ∧ ρ 43 = .int .i64 i) ?_ (c 0 + 1).toNat ?_
  · rintro m ρ s3 ⟨i, hi, hm, hn, hk, ⟨xs, hxl, hx⟩, q10, q51, q52⟩
    have hr3 := (hk (s1.next + 1 + 8) (by omega)).trans hr2
    by_cases hlt : i < (c 0 + 1).toNat
    · have hlt' : (i : Int) < c 0 + 1 := by omega
      have hw : IntKind.i64.wrap ((i : Int) + 1) = i + 1 := w64 (by omega) (by omega)
      have hset := setN_map (f := .int .u64) (xs := xs) (off := i) (y := 1) (by omega)
      simp (disch := omega) [q10, q51, q52, hlt', hr3, hx, hset, hw]
      refine ⟨m - 1, by omega, i + 1, by omega, by omega, hn, fun n hn => ?_, ⟨xs.set i 1, by simp [hxl], ?_⟩, by simp⟩
      · simp (disch := omega) [hn, hk n hn]
      · simp [List.map_set]
    · have hlt' : ¬ (i : Int) < c 0 + 1 := by omega
      simp (disch := omega) [q10, q51, q52, hlt']
      refine hq (s1.next + 1 + 8) s1.next s3 ?_ ?_ ?_ ?_ ⟨_, hr3, rfl⟩ ⟨.int .i64 512, ?_⟩
      · exact ⟨by omega, fun n hn => by rw [hk n (by omega), hk2 n hn]⟩
      all_goals first | omega | skip
      rw [hk _ (by omega), ht2]
  · simp (disch := omega) [hmx]
    exact ⟨0, by omega, by omega, hl2, rfl⟩

end Go.Sh
