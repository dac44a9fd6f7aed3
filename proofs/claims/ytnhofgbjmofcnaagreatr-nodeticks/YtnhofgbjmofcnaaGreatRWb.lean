/-
  NodeTicks: a node is made.
-/
import Derived.Test.YtnhofgbjmofcnaaGreatRWa

namespace Go.Sh
open Go
open Go.Proofs

variable {prim : PrimF} {s : St} {Q : Value → St → Prop} {P : Lay} {ty : Nat → Ty} {ρ : Rho}

/-- From names and what lies under them. -/
theorem Inv.init {s' : St} (hinj : ∀ i j, P.use i → P.use j → P.nm i = P.nm j → i = j) (hlt : ∀ i, P.use i → P.nm i < s'.next) (hobj : ∀ ty : Nat → Ty, ∀ i, P.use i → ∃ o, s'.heap.get (P.nm i) = some o ∧ FixObj P ty i o) :
    ∃ ty, Inv P ty s' ∧ ∀ n, (ty n).isNo = false → ∃ i, P.use i ∧ P.nm i = n := by
  classical
  let ty : Nat → Ty := fun n => if h : ∃ i, P.use i ∧ P.nm i = n then .fix h.choose else .no
  have hty : ∀ n, (∃ i, P.use i ∧ P.nm i = n ∧ ty n = .fix i) ∨ ((¬ ∃ i, P.use i ∧ P.nm i = n) ∧ ty n = .no) := by
    intro n
    by_cases h : ∃ i, P.use i ∧ P.nm i = n
    · exact .inl ⟨h.choose, h.choose_spec.1, h.choose_spec.2, by simp only [ty, dif_pos h]⟩
    · exact .inr ⟨h, by simp only [ty, dif_neg h]⟩
  have hno : ∀ n, (ty n).isNo = false → ∃ i, P.use i ∧ P.nm i = n := by
    intro n hn
    rcases hty n with ⟨i, h1, h2, _⟩ | ⟨_, h2⟩
    · exact ⟨i, h1, h2⟩
    · rw [h2] at hn; cases hn
  refine ⟨ty, ⟨fun n hn => ?_, fun i hi => ?_, fun n i h => ?_, fun n hn => ?_⟩, hno⟩
  · obtain ⟨i, h1, rfl⟩ := hno n hn
    exact hlt i h1
  · rcases hty (P.nm i) with ⟨j, h1, h2, h3⟩ | ⟨h1, _⟩
    · rw [h3, hinj j i h1 hi h2]
    · exact absurd ⟨i, hi, rfl⟩ h1
  · rcases hty n with ⟨j, h1, h2, h3⟩ | ⟨_, h2⟩
    · rw [h3] at h; cases h; exact h2.symm
    · rw [h2] at h; cases h
  · rcases hty n with ⟨j, h1, h2, h3⟩ | ⟨_, h2⟩
    · rw [h3]
      obtain ⟨o, h4, h5⟩ := hobj ty j h1
      rw [← h2]
      exact ⟨o, h4, h5⟩
    · rw [h2] at hn; cases hn

theorem rootsNew_ok' (hP : POnly prim) {mu sl : Nat} {x y : Int} (hx : x = mu) (hy : y = sl) (h1 : 1 ≤ mu) (h2 : mu ≤ 4) (h3 : 1 ≤ sl) (h4 : sl ≤ 8)
    (hq : ∀ s', Keep s s' → s'.next = s.next + 2 + mu → s'.heap.get (s.next + 1 + mu) = some (.cells [.slice (some ⟨s.next, 0, none⟩) mu mu] none false) →
      s'.heap.get s.next = some (.cells (rowsTo (s.next + 1) sl mu mu) none false) → (∀ m, m < mu → s'.heap.get (s.next + 1 + m) = some (.cells (idCells (List.replicate sl (0, 0))) none false)) →
      Q (.tuple #[.pointer (some ⟨s.next + 1 + mu, 0, none⟩), .int .i64 0]) s') : WC (tE prim) 17 [.int .i64 x, .int .i64 y] s Q := by
  subst hx hy
  exact rootsNew_ok hP h1 h2 h3 h4 hq

/-! ### names in their order -/
theorem pw2 {a b : Nat} {l : List Nat} (h : a < b) (hl : (b :: l).Pairwise (· < ·)) : (a :: b :: l).Pairwise (· < ·) := by
  refine List.pairwise_cons.2 ⟨fun x hx => ?_, hl⟩
  rcases List.mem_cons.1 hx with rfl | hx
  · exact h
  · exact Nat.lt_trans h ((List.pairwise_cons.1 hl).1 x hx)

def posL : List Nat := [0, 5, 3, 1, 2, 4, 7, 6, 8, 10, 9, 12, 11, 18, 16, 17, 15, 13, 14, 20, 19, 21]
def nmOf (ns : List Nat) (b : Nat) (i : Nat) : Nat := if i < 22 then ns.getD (posL.getD i 0) 0 else b + (i - 25)

theorem posL_lt : ∀ i, i < 22 → posL.getD i 0 < 22 := by decide
theorem posL_inj : ∀ i, i < 22 → ∀ j, j < 22 → posL.getD i 0 = posL.getD j 0 → i = j := by decide

theorem up_lt {ns : List Nat} (hs : ns.Pairwise (· < ·)) {p q : Nat} (h : p < q) (hq : q < ns.length) : ns.getD p 0 < ns.getD q 0 := by
  have := List.pairwise_iff_getElem.1 hs p q (by omega) hq h
  simpa [List.getD_eq_getElem?_getD, hq, show p < ns.length by omega] using this

theorem up_le {ns : List Nat} (hs : ns.Pairwise (· < ·)) {p q : Nat} (h : p ≤ q) (hq : q < ns.length) : ns.getD p 0 ≤ ns.getD q 0 := by
  rcases Nat.lt_or_eq_of_le h with h | rfl
  · exact Nat.le_of_lt (up_lt hs h hq)
  · exact Nat.le_refl _

theorem nm_mid {ns : List Nat} {b mu i : Nat} (hl : ns.length = 22) (hs : ns.Pairwise (· < ·)) (h6 : ns.getD 6 0 < b) (h7 : b + mu ≤ ns.getD 7 0) (hi : i < 22) : nmOf ns b i < b ∨ b + mu ≤ nmOf ns b i := by
  have hp := posL_lt i hi
  unfold nmOf
  rw [if_pos hi]
  by_cases h : posL.getD i 0 ≤ 6
  · left; have := up_le hs h (by omega); omega
  · right; have := up_le hs (show 7 ≤ posL.getD i 0 by omega) (by omega); omega

theorem nm_inj {ns : List Nat} {b mu : Nat} (hl : ns.length = 22) (hs : ns.Pairwise (· < ·)) (h6 : ns.getD 6 0 < b) (h7 : b + mu ≤ ns.getD 7 0) {i j : Nat} (hi : i < 22 ∨ (25 ≤ i ∧ i < 25 + mu)) (hj : j < 22 ∨ (25 ≤ j ∧ j < 25 + mu)) (h : nmOf ns b i = nmOf ns b j) : i = j := by
  rcases hi with hi | hi <;> rcases hj with hj | hj
  · unfold nmOf at h
    rw [if_pos hi, if_pos hj] at h
    have hpi := posL_lt i hi
    have hpj := posL_lt j hj
    rcases Nat.lt_trichotomy (posL.getD i 0) (posL.getD j 0) with e | e | e
    · have := up_lt hs e (by omega); omega
    · exact posL_inj i hi j hj e
    · have := up_lt hs e (by omega); omega
  · have := nm_mid hl hs h6 h7 hi
    have e : nmOf ns b j = b + (j - 25) := by unfold nmOf; rw [if_neg (by omega)]
    omega
  · have := nm_mid hl hs h6 h7 hj
    have e : nmOf ns b i = b + (i - 25) := by unfold nmOf; rw [if_neg (by omega)]
    omega
  · unfold nmOf at h
    rw [if_neg (by omega), if_neg (by omega)] at h
    omega

abbrev nodeL (c : Nat → Int) (h r k cy st sc ca se tr : Value) : List Value := h :: r :: k :: (cfgL c ++ [.int .i64 1, cy, st, sc, ca, se, tr, .int .u64 0, .int .i64 0, .int .u64 0])
abbrev pt (n : Nat) : Value := .pointer (some ⟨n, 0, none⟩)

theorem Made_ok {c : Nat → Int} (hc : CfgOk c) {s' : St} {mu sl : Nat} (hmu : c 1 = mu) (hsl : c 2 = sl) {N a3 a4 a2 m5 H r7 r6 k8 ct cy stt st sct scm sc cat cal ca seT se tr b : Nat}
    (hs : [N, a3, a4, a2, m5, H, r7, r6, k8, ct, cy, stt, st, sct, scm, sc, cat, cal, ca, seT, se, tr].Pairwise (· < ·)) (h6 : r7 < b) (h7 : b + mu ≤ r6) (htr : tr < s'.next)
    (g0 : s'.heap.get N = some (.cells (nodeL c (pt H) (pt r6) (pt k8) (pt cy) (pt st) (pt sc) (pt ca) (pt se) (pt tr)) none false))
    (g1 : s'.heap.get H = some (.cells [.int .i64 1, .int .i64 (c 4), .int .u64 (c 21), pt a2, .map (some m5)] none false))
    (g2 : s'.heap.get a2 = some (.cells [.slice (some ⟨a3, 0, none⟩) ((c 3).tdiv 16).toNat ((c 3).tdiv 16).toNat, .slice (some ⟨a4, 0, none⟩) ((c 3).tdiv 16).toNat ((c 3).tdiv 16).toNat] none false))
    (g3 : s'.heap.get a3 = some (.cells ((List.replicate ((c 3).tdiv 16).toNat (0 : Int)).map (.int .i64)) none false))
    (g4 : s'.heap.get a4 = some (.cells ((List.replicate ((c 3).tdiv 16).toNat (0 : Int)).map (.int .u16)) none false))
    (g5 : s'.heap.get m5 = some (.map [] 0))
    (g6 : s'.heap.get r6 = some (.cells [.slice (some ⟨r7, 0, none⟩) mu mu] none false))
    (g7 : s'.heap.get r7 = some (.cells (rowsTo b sl mu mu) none false))
    (g25 : ∀ m, m < mu → s'.heap.get (b + m) = some (.cells (idCells (List.replicate sl (0, 0))) none false))
    (g8 : s'.heap.get k8 = some (.cells [.int .u64 (c 20)] none false))
    {crow cshr : List Value} (g9 : s'.heap.get cy = some (.cells crow none false)) (g10 : s'.heap.get ct = some (.cells cshr none false)) (g9a : crow[0]? = some (pt ct)) (g9b : crow[7]? = some (.int .i64 0)) (g10a : cshr[0]? = some (.int .i64 0))
    (g11 : ∃ row, s'.heap.get st = some (.cells row none false) ∧ row[0]? = some (pt stt))
    (g12 : s'.heap.get stt = some (.cells [.slice none 0 0, .slice none 0 0, .int .i64 (c 5)] none false))
    (g13 : s'.heap.get ca = some (.cells (cfgL c ++ [.int .i64 1, .int .u64 (c 21), .slice (some ⟨cal, 0, none⟩) (c 0 + 1).toNat (c 0 + 1).toNat, pt cat, .int .u64 0]) none false))
    (g14 : s'.heap.get cat = some (.cells [.slice none 0 0, .slice none 0 0, .int .i64 (c 6)] none false))
    (g15 : ∃ xs : List Int, xs.length = (c 0 + 1).toNat ∧ s'.heap.get cal = some (.cells (xs.map (.int .u64)) none false))
    (g16 : ∃ row, s'.heap.get sc = some (.cells row none false) ∧ row[23]? = some (pt sct) ∧ row[24]? = some (.map (some scm)))
    (g17 : ∃ x, s'.heap.get sct = some (.cells [.slice none 0 0, .slice none 0 0, x] none false)) (g18 : s'.heap.get scm = some (.map [] 0))
    (g19 : ∃ row, s'.heap.get se = some (.cells row none false) ∧ row[24]? = some (pt seT))
    (g20 : ∃ x, s'.heap.get seT = some (.cells [.slice none 0 0, .slice none 0 0, x] none false))
    (g21 : ∃ row, s'.heap.get tr = some (.cells row none false) ∧ (∃ x, row[23]? = some (.int .u64 x)) ∧ (∃ x, row[24]? = some (.int .i64 x))) :
    ∃ P ty, LayOk P ∧ P.now = P.born ∧ P.now = c 20 ∧ P.nm 0 = N ∧ Inv P ty s' ∧ ∀ n, (ty n).isNo = false → N ≤ n := by
  obtain ⟨row11, g11, g11a⟩ := g11
  obtain ⟨row16, g16, g16a, g16b⟩ := g16
  obtain ⟨x17, g17⟩ := g17
  obtain ⟨row19, g19, g19a⟩ := g19
  obtain ⟨x20, g20⟩ := g20
  obtain ⟨row21, g21, ⟨x21, g21a⟩, ⟨y21, g21b⟩⟩ := g21
  obtain ⟨xs, g15a, g15⟩ := g15
  have c0 := hc.c0
  have c1 := hc.c1
  have c2 := hc.c2
  have c3 := hc.c3
  have c4 := hc.c4
  have c6 := hc.c6
  have c20 := hc.c20
  let ns := [N, a3, a4, a2, m5, H, r7, r6, k8, ct, cy, stt, st, sct, scm, sc, cat, cal, ca, seT, se, tr]
  let row : Nat → List Value := fun i => match i with
      | 0 => nodeL c (pt H) (pt r6) (pt k8) (pt cy) (pt st) (pt sc) (pt ca) (pt se) (pt tr)
      | 2 => [.slice (some ⟨a3, 0, none⟩) ((c 3).tdiv 16).toNat ((c 3).tdiv 16).toNat, .slice (some ⟨a4, 0, none⟩) ((c 3).tdiv 16).toNat ((c 3).tdiv 16).toNat]
      | 6 => [.slice (some ⟨r7, 0, none⟩) mu mu]
      | 7 => rowsTo b sl mu mu
      | 9 => crow
      | 10 => cshr
      | 11 => row11
      | 12 => [.slice none 0 0, .slice none 0 0, .int .i64 (c 5)]
      | 13 => cfgL c ++ [.int .i64 1, .int .u64 (c 21), .slice (some ⟨cal, 0, none⟩) (c 0 + 1).toNat (c 0 + 1).toNat, pt cat, .int .u64 0]
      | 16 => row16
      | 17 => [.slice none 0 0, .slice none 0 0, x17]
      | 19 => row19
      | 20 => [.slice none 0 0, .slice none 0 0, x20]
      | 21 => row21
      | _ => []
  let P : Lay := { nm := nmOf ns b, row := row, mu := mu, sl := sl, nd := (c 0).toNat, nb := ((c 3).tdiv 16).toNat, calls := (c 6).toNat, ob := (c 4).toNat, born := c 20, now := c 20 }
  have hinj : ∀ i j, P.use i → P.use j → P.nm i = P.nm j → i = j := fun i j hi hj h => nm_inj (mu := mu) rfl hs h6 h7 hi hj h
  have hq3 : (c 3).tdiv 16 = c 3 / 16 := Int.tdiv_eq_ediv_of_nonneg (by omega)
  have hL : LayOk P := {
    mu1 := show 1 ≤ mu by omega
    slp := show 1 ≤ sl by omega
    mu3 := show mu ≤ 3 by omega
    n := ⟨c, show c 0 = ((c 0).toNat : Int) by omega, hmu, hsl, rfl⟩
    a := rfl
    r := rfl
    rr := fun m hm => (rowsTo_get hm).trans (by show _ = some (Value.slice (some ⟨nmOf ns b (25 + m), 0, none⟩) sl sl); unfold nmOf; rw [if_neg (by omega), show 25 + m - 25 = m by omega])
    y0 := g9a
    y7 := g9b
    sh := g10a
    st := g11a
    sq := ⟨_, rfl⟩
    ctn := show some (Value.int .i64 (c 0)) = some (.int .i64 ((c 0).toNat : Int)) by rw [show ((c 0).toNat : Int) = c 0 by omega]
    ctc := show some (Value.int .i64 (c 6)) = some (.int .i64 ((c 6).toNat : Int)) by rw [show ((c 6).toNat : Int) = c 6 by omega]
    ctw := ⟨c 7, rfl⟩
    ctp := ⟨c 16, hc.c16.1, rfl⟩
    cts := rfl
    ctl := show some (Value.slice (some ⟨cal, 0, none⟩) (c 0 + 1).toNat (c 0 + 1).toNat) = some (.slice (some ⟨cal, 0, none⟩) ((c 0).toNat + 1) ((c 0).toNat + 1)) by rw [show (c 0 + 1).toNat = (c 0).toNat + 1 by omega]
    ctq := rfl
    scq := g16a
    scb := g16b
    sq2 := ⟨_, rfl⟩
    otq := g19a
    oq := ⟨_, rfl⟩
    tr1 := ⟨_, g21a⟩
    tr2 := ⟨_, g21b⟩
    sl1 := show sl ≤ 64 by omega
    nb1 := show ((c 3).tdiv 16).toNat ≤ 64 by omega
    nd1 := show (c 0).toNat ≤ 64 by omega
    calls1 := show (c 6).toNat ≤ 64 by omega
    ob1 := show (c 4).toNat ≤ 64 by omega
    now0 := show 0 ≤ c 20 by omega
    now1 := show c 20 < 18446744073709551616 by omega }
  have hobj : ∀ ty : Nat → Ty, ∀ i, P.use i → ∃ o, s'.heap.get (P.nm i) = some o ∧ FixObj P ty i o := by
    intro ty i hi
    rcases hi with hi | ⟨hi, hi'⟩
    · match i, hi with
      | 0, _ => exact ⟨_, g0, rfl⟩
      | 1, _ => exact ⟨_, g1, c 21, by show _ = AObj.cells [.int .i64 1, .int .i64 ((c 4).toNat : Int), .int .u64 (c 21), pt a2, .map (some m5)] none false; rw [show ((c 4).toNat : Int) = c 4 by omega]⟩
      | 2, _ => exact ⟨_, g2, rfl⟩
      | 3, _ => exact ⟨_, g3, _, by simp [P], rfl⟩
      | 4, _ => exact ⟨_, g4, List.replicate ((c 3).tdiv 16).toNat 0, by simp [P], fun x hx => by rw [(List.mem_replicate.1 hx).2]; decide, rfl⟩
      | 5, _ => exact ⟨_, g5, [], 0, rfl, Nat.zero_le _, fun e he => by cases he⟩
      | 6, _ => exact ⟨_, g6, rfl⟩
      | 7, _ => exact ⟨_, g7, rfl⟩
      | 8, _ => exact ⟨_, g8, rfl⟩
      | 9, _ => exact ⟨_, g9, rfl⟩
      | 10, _ => exact ⟨_, g10, rfl⟩
      | 11, _ => exact ⟨_, g11, rfl⟩
      | 12, _ => exact ⟨_, g12, rfl⟩
      | 13, _ => exact ⟨_, g13, rfl⟩
      | 14, _ => exact ⟨_, g14, 0, Nat.zero_le _, .inl ⟨rfl, by show _ = AObj.cells [.slice none 0 0, .slice none 0 0, .int .i64 ((c 6).toNat : Int)] none false; rw [show ((c 6).toNat : Int) = c 6 by omega]⟩⟩
      | 15, _ => exact ⟨_, g15, xs, by rw [g15a]; show (c 0 + 1).toNat = (c 0).toNat + 1; omega, rfl⟩
      | 16, _ => exact ⟨_, g16, rfl⟩
      | 17, _ => exact ⟨_, g17, rfl⟩
      | 18, _ => exact ⟨_, g18, rfl⟩
      | 19, _ => exact ⟨_, g19, rfl⟩
      | 20, _ => exact ⟨_, g20, rfl⟩
      | 21, _ => exact ⟨_, g21, rfl⟩
      | n + 22, h => omega
    · have hmu' : i < 25 + mu := hi'
      have e : P.nm i = b + (i - 25) := by show nmOf ns b i = _; unfold nmOf; rw [if_neg (by omega)]
      rw [e]
      have hg := g25 (i - 25) (by omega)
      match i, hi, hmu', hg with
      | 25, _, _, hg => exact ⟨_, hg, List.replicate sl (0, 0), by simp [P], rfl⟩
      | 26, _, _, hg => exact ⟨_, hg, List.replicate sl (0, 0), by simp [P], rfl⟩
      | 27, _, _, hg => exact ⟨_, hg, List.replicate sl (0, 0), by simp [P], rfl⟩
      | n + 28, _, h, _ => omega
  have hge : ∀ i, P.use i → N ≤ P.nm i ∧ P.nm i ≤ tr := by
    intro i hi
    have hN : ∀ p, p < 22 → N ≤ ns.getD p 0 ∧ ns.getD p 0 ≤ tr := fun p hp => ⟨up_le hs (Nat.zero_le p) hp, up_le hs (show p ≤ 21 by omega) (show 21 < 22 by decide)⟩
    rcases hi with hi | ⟨hi, hi'⟩
    · have := hN _ (posL_lt i hi)
      have e : P.nm i = ns.getD (posL.getD i 0) 0 := by show nmOf ns b i = _; unfold nmOf; rw [if_pos hi]
      rw [e]; exact this
    · have hmu' : i < 25 + mu := hi'
      have e : P.nm i = b + (i - 25) := by show nmOf ns b i = _; unfold nmOf; rw [if_neg (by omega)]
      have h1 : N ≤ r7 := (hN 6 (by decide)).1
      have h2 : r6 ≤ tr := (hN 7 (by decide)).2
      omega
  obtain ⟨ty, hI, hno⟩ := Inv.init (P := P) (s' := s') hinj (fun i hi => Nat.lt_of_le_of_lt (hge i hi).2 htr) hobj
  refine ⟨P, ty, hL, rfl, rfl, rfl, hI, fun n hn => ?_⟩
  obtain ⟨i, h1, rfl⟩ := hno n hn
  exact (hge i h1).1

/-! ### the nine outcomes -/
noncomputable def iaG (prim : PrimF) (k : Int) (x : Value) (nm : Option Nat) (s : St) : Option (Value × St) := opRun (tE prim) (fun o => match o with
  | .tmp _ => some x
  | _ => some (.int .i64 k)) (gop (.indexAddr 78 (.tmp 0) (.const (.int .i64 k)))) nm s
theorem run_ia {k : Int} {a : Nat} {nm : Option Nat} : opRun (tE prim) (evO ρ) (gop (.indexAddr 78 (.tmp a) (.const (.int .i64 k)))) nm s = iaG prim k (ρ a) nm s := rfl
theorem ia0 {n : Nat} {nm : Option Nat} : iaG prim 0 (.pointer (some ⟨n, 0, none⟩)) nm s = some (.pointer (some ⟨n, 0, none⟩), s) := rfl
theorem ia1 {n : Nat} {nm : Option Nat} : iaG prim 1 (.pointer (some ⟨n, 0, none⟩)) nm s = some (.pointer (some ⟨n, 1, none⟩), s) := rfl
theorem ia2 {n : Nat} {nm : Option Nat} : iaG prim 2 (.pointer (some ⟨n, 0, none⟩)) nm s = some (.pointer (some ⟨n, 2, none⟩), s) := rfl
theorem ia3 {n : Nat} {nm : Option Nat} : iaG prim 3 (.pointer (some ⟨n, 0, none⟩)) nm s = some (.pointer (some ⟨n, 3, none⟩), s) := rfl
theorem ia4 {n : Nat} {nm : Option Nat} : iaG prim 4 (.pointer (some ⟨n, 0, none⟩)) nm s = some (.pointer (some ⟨n, 4, none⟩), s) := rfl
theorem ia5 {n : Nat} {nm : Option Nat} : iaG prim 5 (.pointer (some ⟨n, 0, none⟩)) nm s = some (.pointer (some ⟨n, 5, none⟩), s) := rfl
theorem ia6 {n : Nat} {nm : Option Nat} : iaG prim 6 (.pointer (some ⟨n, 0, none⟩)) nm s = some (.pointer (some ⟨n, 6, none⟩), s) := rfl
theorem ia7 {n : Nat} {nm : Option Nat} : iaG prim 7 (.pointer (some ⟨n, 0, none⟩)) nm s = some (.pointer (some ⟨n, 7, none⟩), s) := rfl
theorem ia8 {n : Nat} {nm : Option Nat} : iaG prim 8 (.pointer (some ⟨n, 0, none⟩)) nm s = some (.pointer (some ⟨n, 8, none⟩), s) := rfl
abbrev z9 : List Value := [.int .i64 0, .int .i64 0, .int .i64 0, .int .i64 0, .int .i64 0, .int .i64 0, .int .i64 0, .int .i64 0, .int .i64 0]
theorem run_b78 {nm : Option Nat} : opRun (tE prim) (evO ρ) (gop (.build 78 #[])) nm s = some (.agg z9.toArray, s) := rfl
theorem eq78 : eqv0 (tE prim) s 78 (.agg z9.toArray) (.agg z9.toArray) = some true := rfl

attribute [local simp] run_ia ia0 ia1 ia2 ia3 ia4 ia5 ia6 ia7 ia8 run_b78 eq78



set_option maxRecDepth 100000 in
set_option maxHeartbeats 3200000 in
theorem nodeMake_ok (hP : POnly prim) {c : Nat → Int} (hc : CfgOk c) (hq : ∀ P ty s', LayOk P → P.now = P.born → P.now = c 20 → Inv P ty s' → Keep s s' → (∀ n, (ty n).isNo = false → s.next ≤ n) → Q (.tuple #[P.p 0, .int .i64 0]) s') : WC (tE prim) 5 [cfgV c, .int .i64 1] s Q := by
  refine WC_fn (fm5 prim (hP.no _)) rfl ?_
  have h0 := hc.c0
  have h1 := hc.c1
  have h2 := hc.c2
  have n1 : ¬ c 0 < 1 := by omega
  obtain ⟨mu, hmu⟩ : ∃ n : Nat, c 1 = n := ⟨(c 1).toNat, by omega⟩
  obtain ⟨sl, hsl⟩ : ∃ n : Nat, c 2 = n := ⟨(c 2).toNat, by omega⟩
  have k0 : Keep s ⟨s.heap.set s.next (.cells (cfgL c) none false), s.next + 1⟩ := ⟨by simp only; omega, fun n hn => by simp (disch := omega)⟩
  simp (disch := omega) [m5]
  refine may_ok hP hc fun s1 k1 => ?_
  have e1 := k1.next
  simp only at e1
  have b1 := k1.get s.next (by simp only; omega)
  simp (disch := omega) at b1
  have kk := k0.trans k1
  simp (disch := omega) [b1, n1]
  refine heapNew_ok hP hc.c3.1 (by have := hc.c3; omega) hc.c3m hc.c4.1 hc.c4.2 hc.c21.1 hc.c21.2 fun s2 k2 hn2 i1 i2 i3 i4 i5 => ?_
  simp only at hn2 i1 i2 i3 i4 i5
  generalize hN : s1.next = N at *
  have b2 := k2.get s.next (by simp only; omega)
  have nd2 := k2.get N (by simp only; omega)
  have er2 := k2.get (N + 1) (by simp only; omega)
  simp (disch := omega) [b1] at b2 nd2 er2
  have t2 : ∀ m, m < s.next → s2.heap.get m = s.heap.get m := fun m hm => by rw [k2.get m (by simp only; omega)]; simp (disch := omega) [kk.get m hm]
  simp (disch := omega) [b2, nd2, er2]
  refine rootsNew_ok' hP hmu hsl (by omega) (by omega) (by omega) (by omega) fun s3 k3 hn3 j1 j2 j3 => ?_
  simp only at hn3 j1 j2 j3
  have n3 := k3.next
  simp only at n3
  have T3 : ∀ m, m < s2.next → m ≠ N → m ≠ N + 1 → s3.heap.get m = s2.heap.get m := fun m h1 h2 h3 => by rw [k3.get m (by simp only; omega)]; simp (disch := omega)
  have b3 := k3.get s.next (by simp only; omega)
  have nd3 := k3.get N (by simp only; omega)
  have er3 := k3.get (N + 1) (by simp only; omega)
  simp (disch := omega) [b2] at b3 nd3 er3
  simp (disch := omega) [b3, nd3, er3]
  refine clockNew_ok hP hc.c20.2 ?_
  simp (disch := omega) [b3, nd3, er3]
  generalize hs4 : (St.mk _ _) = s4
  have n4 : s3.next + 1 ≤ s4.next := by rw [← hs4]; simp only; omega
  have T4 : ∀ m, m < s3.next → m ≠ N → m ≠ N + 1 → s4.heap.get m = s3.heap.get m := fun m h1 h2 h3 => by rw [← hs4]; simp (disch := omega)
  have kk4 : s4.heap.get s3.next = some (.cells [.int .u64 (c 20)] none false) := by rw [← hs4]; simp (disch := omega)
  have b4 : s4.heap.get s.next = some (.cells (cfgL c) none false) := by rw [← hs4]; simp (disch := omega) [b3]
  have nd4 : s4.heap.get N = some (.cells (nodeL c (.pointer (some ⟨N + 1 + 1 + 9, 0, none⟩)) (.pointer (some ⟨s2.next + 1 + mu, 0, none⟩)) (.pointer (some ⟨s3.next, 0, none⟩)) (.pointer none) (.pointer none) (.pointer none) (.pointer none) (.pointer none) (.pointer none)) none false) := by rw [← hs4]; simp (disch := omega)
  have er4 : s4.heap.get (N + 1) = some (.cells z9 none false) := by rw [← hs4]; simp (disch := omega)
  have hH4 : s4.heap.get (N + 1 + 1 + 9) = some (.cells [.int .i64 1, .int .i64 (c 4), .int .u64 (c 21), .pointer (some ⟨N + 1 + 1 + 5, 0, none⟩), .map (some (N + 1 + 1 + 8))] none false) := by
    rw [T4 _ (by omega) (by omega) (by omega), T3 _ (by omega) (by omega) (by omega)]; exact i1
  refine cycleNew_ok hP (x := c 21) (nd := 1) (by omega) hH4 rfl rfl (by omega) (by have := hc.c8; omega) (by have := hc.c17; omega) (by have := hc.c19; omega) fun cy ct crow cshr s5 k5 q1 q2 q3 q4 q5 q6 q7 q8 => ?_
  have n5 := k5.next
  have T5 : ∀ m, m < s4.next → m ≠ N → m ≠ N + 1 → s5.heap.get m = s4.heap.get m := fun m h1 h2 h3 => k5.get m h1
  have b5 := (k5.get s.next (by omega)).trans b4
  have nd5 := (k5.get N (by omega)).trans nd4
  have er5 := (k5.get (N + 1) (by omega)).trans er4
  simp (disch := omega) [b5, nd5, er5]
  generalize hu5 : (St.mk _ _) = u5
  have m5 : s5.next ≤ u5.next := by rw [← hu5]; simp only; omega
  have U5 : ∀ m, m ≠ N → m ≠ N + 1 → u5.heap.get m = s5.heap.get m := fun m h2 h3 => by rw [← hu5]; simp (disch := omega)
  have ub5 := (U5 s.next (by omega) (by omega)).trans b5
  have und5 : u5.heap.get N = some (.cells (nodeL c (.pointer (some ⟨N + 1 + 1 + 9, 0, none⟩)) (.pointer (some ⟨s2.next + 1 + mu, 0, none⟩)) (.pointer (some ⟨s3.next, 0, none⟩)) (.pointer (some ⟨cy, 0, none⟩)) (.pointer none) (.pointer none) (.pointer none) (.pointer none) (.pointer none)) none false) := by rw [← hu5]; simp (disch := omega)
  have uer5 : u5.heap.get (N + 1) = some (.cells z9 none false) := by rw [← hu5]; simp (disch := omega)
  refine stubNew_ok hP hc fun st stt s6 k6 p1 p2 p3 p4 p5 => ?_
  have n6 := k6.next
  have T6 : ∀ m, m < u5.next → s6.heap.get m = u5.heap.get m := k6.get
  have b6 := (k6.get s.next (by omega)).trans ub5
  have nd6 := (k6.get N (by omega)).trans und5
  have er6 := (k6.get (N + 1) (by omega)).trans uer5
  simp (disch := omega) [b6, nd6, er6]
  generalize hu6 : (St.mk _ _) = u6
  have m6 : s6.next ≤ u6.next := by rw [← hu6]; simp only; omega
  have U6 : ∀ m, m ≠ N → m ≠ N + 1 → u6.heap.get m = s6.heap.get m := fun m h2 h3 => by rw [← hu6]; simp (disch := omega)
  have ub6 := (U6 s.next (by omega) (by omega)).trans b6
  have und6 : u6.heap.get N = some (.cells (nodeL c (.pointer (some ⟨N + 1 + 1 + 9, 0, none⟩)) (.pointer (some ⟨s2.next + 1 + mu, 0, none⟩)) (.pointer (some ⟨s3.next, 0, none⟩)) (.pointer (some ⟨cy, 0, none⟩)) (.pointer (some ⟨st, 0, none⟩)) (.pointer none) (.pointer none) (.pointer none) (.pointer none)) none false) := by rw [← hu6]; simp (disch := omega)
  have uer6 : u6.heap.get (N + 1) = some (.cells z9 none false) := by rw [← hu6]; simp (disch := omega)
  have hH6 : u6.heap.get (N + 1 + 1 + 9) = some (.cells [.int .i64 1, .int .i64 (c 4), .int .u64 (c 21), .pointer (some ⟨N + 1 + 1 + 5, 0, none⟩), .map (some (N + 1 + 1 + 8))] none false) := by
    rw [U6 _ (by omega) (by omega), T6 _ (by omega), U5 _ (by omega) (by omega), T5 _ (by omega) (by omega) (by omega)]; exact hH4
  refine scionNew_ok hP hc (by omega) hH6 rfl fun sc sct scm s7 k7 r1 r2 r3 r4 r5 r6 r7 => ?_
  have n7 := k7.next
  have T7 : ∀ m, m < u6.next → s7.heap.get m = u6.heap.get m := k7.get
  have b7 := (k7.get s.next (by omega)).trans ub6
  have nd7 := (k7.get N (by omega)).trans und6
  have er7 := (k7.get (N + 1) (by omega)).trans uer6
  simp (disch := omega) [b7, nd7, er7]
  generalize hu7 : (St.mk _ _) = u7
  have m7 : s7.next ≤ u7.next := by rw [← hu7]; simp only; omega
  have U7 : ∀ m, m ≠ N → m ≠ N + 1 → u7.heap.get m = s7.heap.get m := fun m h2 h3 => by rw [← hu7]; simp (disch := omega)
  have ub7 := (U7 s.next (by omega) (by omega)).trans b7
  have und7 : u7.heap.get N = some (.cells (nodeL c (.pointer (some ⟨N + 1 + 1 + 9, 0, none⟩)) (.pointer (some ⟨s2.next + 1 + mu, 0, none⟩)) (.pointer (some ⟨s3.next, 0, none⟩)) (.pointer (some ⟨cy, 0, none⟩)) (.pointer (some ⟨st, 0, none⟩)) (.pointer (some ⟨sc, 0, none⟩)) (.pointer none) (.pointer none) (.pointer none)) none false) := by rw [← hu7]; simp (disch := omega)
  have uer7 : u7.heap.get (N + 1) = some (.cells z9 none false) := by rw [← hu7]; simp (disch := omega)
  refine callerNew_ok hP hc fun ca cat cal s8 k8 v1 v2 v3 v4 v5 v6 v7 => ?_
  have n8 := k8.next
  have T8 : ∀ m, m < u7.next → s8.heap.get m = u7.heap.get m := k8.get
  have b8 := (k8.get s.next (by omega)).trans ub7
  have nd8 := (k8.get N (by omega)).trans und7
  have er8 := (k8.get (N + 1) (by omega)).trans uer7
  simp (disch := omega) [b8, nd8, er8]
  generalize hu8 : (St.mk _ _) = u8
  have m8 : s8.next ≤ u8.next := by rw [← hu8]; simp only; omega
  have U8 : ∀ m, m ≠ N → m ≠ N + 1 → u8.heap.get m = s8.heap.get m := fun m h2 h3 => by rw [← hu8]; simp (disch := omega)
  have ub8 := (U8 s.next (by omega) (by omega)).trans b8
  have und8 : u8.heap.get N = some (.cells (nodeL c (.pointer (some ⟨N + 1 + 1 + 9, 0, none⟩)) (.pointer (some ⟨s2.next + 1 + mu, 0, none⟩)) (.pointer (some ⟨s3.next, 0, none⟩)) (.pointer (some ⟨cy, 0, none⟩)) (.pointer (some ⟨st, 0, none⟩)) (.pointer (some ⟨sc, 0, none⟩)) (.pointer (some ⟨ca, 0, none⟩)) (.pointer none) (.pointer none)) none false) := by rw [← hu8]; simp (disch := omega)
  have uer8 : u8.heap.get (N + 1) = some (.cells z9 none false) := by rw [← hu8]; simp (disch := omega)
  refine serverOpen_ok hP hc fun se set' s9 k9 w1 w2 w3 w4 w5 => ?_
  have n9 := k9.next
  have T9 : ∀ m, m < u8.next → s9.heap.get m = u8.heap.get m := k9.get
  have b9 := (k9.get s.next (by omega)).trans ub8
  have nd9 := (k9.get N (by omega)).trans und8
  have er9 := (k9.get (N + 1) (by omega)).trans uer8
  simp (disch := omega) [b9, nd9, er9]
  generalize hu9 : (St.mk _ _) = u9
  have m9 : s9.next ≤ u9.next := by rw [← hu9]; simp only; omega
  have U9 : ∀ m, m ≠ N → m ≠ N + 1 → u9.heap.get m = s9.heap.get m := fun m h2 h3 => by rw [← hu9]; simp (disch := omega)
  have ub9 := (U9 s.next (by omega) (by omega)).trans b9
  have und9 : u9.heap.get N = some (.cells (nodeL c (.pointer (some ⟨N + 1 + 1 + 9, 0, none⟩)) (.pointer (some ⟨s2.next + 1 + mu, 0, none⟩)) (.pointer (some ⟨s3.next, 0, none⟩)) (.pointer (some ⟨cy, 0, none⟩)) (.pointer (some ⟨st, 0, none⟩)) (.pointer (some ⟨sc, 0, none⟩)) (.pointer (some ⟨ca, 0, none⟩)) (.pointer (some ⟨se, 0, none⟩)) (.pointer none)) none false) := by rw [← hu9]; simp (disch := omega)
  have uer9 : u9.heap.get (N + 1) = some (.cells z9 none false) := by rw [← hu9]; simp (disch := omega)
  refine traceNew_ok hP hc fun tr s10 k10 x1 x2 x3 => ?_
  have n10 := k10.next
  have T10 : ∀ m, m < u9.next → s10.heap.get m = u9.heap.get m := k10.get
  have b10 := (k10.get s.next (by omega)).trans ub9
  have nd10 := (k10.get N (by omega)).trans und9
  have er10 := (k10.get (N + 1) (by omega)).trans uer9
  simp (disch := omega) [b10, nd10, er10]
  generalize hsZ : (St.mk _ _) = sZ
  have nZ : sZ.next = s10.next := by rw [← hsZ]
  have Z10 : ∀ m, m ≠ N → m ≠ N + 1 → sZ.heap.get m = s10.heap.get m := fun m h2 h3 => by rw [← hsZ]; simp (disch := omega)
  have Z9 : ∀ m, m ≠ N → m ≠ N + 1 → m < s9.next → sZ.heap.get m = s9.heap.get m := fun m h2 h3 h => by rw [Z10 m h2 h3, T10 m (by omega), U9 m h2 h3]
  have Z8 : ∀ m, m ≠ N → m ≠ N + 1 → m < s8.next → sZ.heap.get m = s8.heap.get m := fun m h2 h3 h => by rw [Z9 m h2 h3 (by omega), T9 m (by omega), U8 m h2 h3]
  have Z7 : ∀ m, m ≠ N → m ≠ N + 1 → m < s7.next → sZ.heap.get m = s7.heap.get m := fun m h2 h3 h => by rw [Z8 m h2 h3 (by omega), T8 m (by omega), U7 m h2 h3]
  have Z6 : ∀ m, m ≠ N → m ≠ N + 1 → m < s6.next → sZ.heap.get m = s6.heap.get m := fun m h2 h3 h => by rw [Z7 m h2 h3 (by omega), T7 m (by omega), U6 m h2 h3]
  have Z5 : ∀ m, m ≠ N → m ≠ N + 1 → m < s5.next → sZ.heap.get m = s5.heap.get m := fun m h2 h3 h => by rw [Z6 m h2 h3 (by omega), T6 m (by omega), U5 m h2 h3]
  have Z4 : ∀ m, m ≠ N → m ≠ N + 1 → m < s4.next → sZ.heap.get m = s4.heap.get m := fun m h2 h3 h => by rw [Z5 m h2 h3 (by omega), T5 m (by omega) h2 h3]
  have Z3 : ∀ m, m ≠ N → m ≠ N + 1 → m < s3.next → sZ.heap.get m = s3.heap.get m := fun m h2 h3 h => by rw [Z4 m h2 h3 (by omega), T4 m (by omega) h2 h3]
  have Z2 : ∀ m, m ≠ N → m ≠ N + 1 → m < s2.next → sZ.heap.get m = s2.heap.get m := fun m h2 h3 h => by rw [Z3 m h2 h3 (by omega), T3 m (by omega) h2 h3]
  have gN : sZ.heap.get N = some (.cells (nodeL c (pt (N + 1 + 1 + 9)) (pt (s2.next + 1 + mu)) (pt s3.next) (pt cy) (pt st) (pt sc) (pt ca) (pt se) (pt tr)) none false) := by rw [← hsZ]; simp (disch := omega)
  have hchain : [N, N + 1 + 1 + 1, N + 1 + 1 + 3, N + 1 + 1 + 5, N + 1 + 1 + 8, N + 1 + 1 + 9, s2.next, s2.next + 1 + mu, s3.next, ct, cy, stt, st, sct, scm, sc, cat, cal, ca, set', se, tr].Pairwise (· < ·) :=
    pw2 (by omega) (pw2 (by omega) (pw2 (by omega) (pw2 (by omega) (pw2 (by omega) (pw2 (by omega) (pw2 (by omega) (pw2 (by omega) (pw2 (by omega) (pw2 (by omega) (pw2 (by omega) (pw2 (by omega) (pw2 (by omega) (pw2 (by omega) (pw2 (by omega) (pw2 (by omega) (pw2 (by omega) (pw2 (by omega) (pw2 (by omega) (pw2 (by omega) (pw2 (by omega) (List.pairwise_singleton _ _)))))))))))))))))))))
  obtain ⟨P, ty, hL, hPb, hPn, hP0, hI, hge⟩ := Made_ok (s' := sZ) hc hmu hsl hchain (b := s2.next + 1) (by omega) (by omega) (by omega) gN
    (by rw [Z2 _ (by omega) (by omega) (by omega)]; exact i1) (by rw [Z2 _ (by omega) (by omega) (by omega)]; exact i3) (by rw [Z2 _ (by omega) (by omega) (by omega)]; exact i4) (by rw [Z2 _ (by omega) (by omega) (by omega)]; exact i5) (by rw [Z2 _ (by omega) (by omega) (by omega)]; exact i2)
    (by rw [Z3 _ (by omega) (by omega) (by omega)]; exact j1) (by rw [Z3 _ (by omega) (by omega) (by omega)]; exact j2) (fun m hm => by rw [Z3 _ (by omega) (by omega) (by omega)]; exact j3 m hm)
    (by rw [Z4 _ (by omega) (by omega) (by omega)]; exact kk4) (by rw [Z5 _ (by omega) (by omega) (by omega)]; exact q4) (by rw [Z5 _ (by omega) (by omega) (by omega)]; exact q5) q6 q7 q8
    (by rw [Z6 _ (by omega) (by omega) (by omega)]; exact p4) (by rw [Z6 _ (by omega) (by omega) (by omega)]; exact p5)
    (by rw [Z8 _ (by omega) (by omega) (by omega)]; exact v5) (by rw [Z8 _ (by omega) (by omega) (by omega)]; exact v6) (by rw [Z8 _ (by omega) (by omega) (by omega)]; exact v7)
    (by rw [Z7 _ (by omega) (by omega) (by omega)]; exact r5) (by rw [Z7 _ (by omega) (by omega) (by omega)]; exact r6) (by rw [Z7 _ (by omega) (by omega) (by omega)]; exact r7)
    (by rw [Z9 _ (by omega) (by omega) (by omega)]; exact w4) (by rw [Z9 _ (by omega) (by omega) (by omega)]; exact w5) (by rw [Z10 _ (by omega) (by omega)]; exact x3)
  have hfin := hq P ty sZ hL hPb hPn hI ⟨by omega, fun n hn => by rw [Z2 n (by omega) (by omega) (by omega), t2 n hn]⟩ (fun n hn => by have := hge n hn; omega)
  rw [Lay.p, hP0] at hfin
  exact hfin

end Go.Sh
