/-
  NodeTicks: an idle cycle; an object is made. NodeTicks: a request that is right; calls' twins. NodeTicks: the table of calls. NodeTicks: a call is laid down.
-/
import Derived.Test.YtnhofgbjmofcnaaGreatRTa

namespace Go.Sh
open Go
open Go.Proofs

variable {prim : PrimF} {s : St} {Q : Value → St → Prop} {P : Lay} {ty : Nat → Ty} {ρ : Rho}

/-! ### the cycle -/
theorem Phase_ok (hP : POnly prim) (hL : LayOk P) (hI : Inv P ty s) (hq : Q (.int .i64 0) s) : WC (tE prim) 86 [P.p 10] s Q := by
  refine WC_fn (fm86 prim (hP.no _)) rfl ?_
  have h := hI.const 10 (by decide)
  simp (disch := omega) [m86, h, hL.sh]
  exact hq

theorem State_ok (hP : POnly prim) (hL : LayOk P) (hI : Inv P ty s) (hq : Q (.int .i64 0) s) : WC (tE prim) 34 [P.p 9] s Q := by
  refine WC_fn (fm34 prim (hP.no _)) rfl ?_
  have h := hI.const 9 (by decide)
  simp (disch := omega) [m34, h, hL.y7, hL.y0]
  refine Phase_ok hP hL hI ?_
  simp (disch := omega) [h, hL.y7, hL.y0]
  refine Phase_ok hP hL hI ?_
  simp (disch := omega)
  exact hq

theorem open_ok (hP : POnly prim) (hL : LayOk P) (hI : Inv P ty s) (hq : Q (.bool false) s) : WC (tE prim) 107 [P.p 9] s Q := by
  refine WC_fn (fm107 prim (hP.no _)) rfl ?_
  simp (disch := omega) [m107]
  refine State_ok hP hL hI ?_
  simp (disch := omega)
  exact hq

theorem Born_ok (hP : POnly prim) (hL : LayOk P) (hI : Inv P ty s) {m x : Value} (hq : Q (.tuple #[]) s) : WC (tE prim) 61 [P.p 9, m, x] s Q := by
  refine WC_fn (fm61 prim (hP.no _)) rfl ?_
  simp (disch := omega) [m61]
  refine open_ok hP hL hI ?_
  simp (disch := omega)
  exact hq

theorem Store_ok (hP : POnly prim) (hL : LayOk P) (hI : Inv P ty s) {m x y : Value} (hq : ∀ s', Keep s s' → Q (.tuple #[]) s') : WC (tE prim) 118 [P.p 9, m, x, y] s Q := by
  refine WC_fn (fm118 prim (hP.no _)) rfl ?_
  simp (disch := omega) [m118]
  have k : Keep s ⟨(s.heap.set s.next (.cells (cellsOf x) none false)).set (s.next + 1) (.cells (cellsOf y) none false), s.next + 1 + 1⟩ := ⟨by simp only; omega, fun n hn => by simp (disch := omega)⟩
  refine open_ok hP hL (hI.keep k) ?_
  simp (disch := omega)
  exact hq _ k

/-! ### more that is typed -/
theorem FixObj.mono {ty' : Nat → Ty} (h : ∀ n, (ty n).isNo = false → ty' n = ty n) {i : Nat} {o : AObj} (ho : FixObj P ty i o) : FixObj P ty' i o := by
  match i, ho with
  | 5, ho =>
    obtain ⟨es, c, h1, h0, h2⟩ := ho
    refine ⟨es, c, h1, h0, fun e he => ?_⟩
    obtain ⟨k, t, h3, h4, h5⟩ := h2 e he
    exact ⟨k, t, h3, h4, by rw [h t (by rw [h5]; rfl), h5]⟩
  | 14, ho =>
    obtain ⟨n, hn, h1 | ⟨ka, va, h1, h2, h3⟩⟩ := ho
    · exact ⟨n, hn, .inl h1⟩
    · exact ⟨n, hn, .inr ⟨ka, va, h1, by rw [h ka (by rw [h2]; rfl), h2], by rw [h va (by rw [h3]; rfl), h3]⟩⟩
  | 0, ho => exact ho
  | 1, ho => exact ho
  | 2, ho => exact ho
  | 3, ho => exact ho
  | 4, ho => exact ho
  | 6, ho => exact ho
  | 7, ho => exact ho
  | 8, ho => exact ho
  | 9, ho => exact ho
  | 10, ho => exact ho
  | 11, ho => exact ho
  | 12, ho => exact ho
  | 13, ho => exact ho
  | 15, ho => exact ho
  | 16, ho => exact ho
  | 17, ho => exact ho
  | 18, ho => exact ho
  | 19, ho => exact ho
  | 20, ho => exact ho
  | 21, ho => exact ho
  | 22, ho => exact ho
  | 23, ho => exact ho
  | 24, ho => exact ho
  | 25, ho => exact ho
  | 26, ho => exact ho
  | 27, ho => exact ho
  | n + 28, ho => exact ho

theorem TyObj.mono {ty' : Nat → Ty} (h : ∀ n, (ty n).isNo = false → ty' n = ty n) {t : Ty} {o : AObj} (ho : TyObj P ty t o) : TyObj P ty' t o := by
  cases t with
  | fix i => exact FixObj.mono h (i := i) ho
  | thing =>
    obtain ⟨cell, r, k, v, l, i, h1, h2, h3, h4⟩ := ho
    exact ⟨cell, r, k, v, l, i, h1, by rw [h r (by rw [h2]; rfl), h2], by rw [h v (by rw [h3]; rfl), h3], h4⟩
  | cvals k =>
    obtain ⟨xs, h1, h2, h3⟩ := ho
    exact ⟨xs, h1, h2, fun r hr => ⟨by rw [h r.a (by rw [(h3 r hr).1]; rfl), (h3 r hr).1], by rw [h r.b (by rw [(h3 r hr).2]; rfl), (h3 r hr).2]⟩⟩
  | _ => exact ho

theorem Inv.extend (hI : Inv P ty s) {ty' : Nat → Ty} {s' : St} (hext : ∀ n, (ty n).isNo = false → ty' n = ty n) (hn : s.next ≤ s'.next)
    (hnew : ∀ n, (ty' n).isNo = false → (ty n).isNo = true → (∀ i, ty' n ≠ .fix i) ∧ s.next ≤ n ∧ n < s'.next ∧ ((ty' n).live = true → ∃ o, s'.heap.get n = some o ∧ TyObj P ty' (ty' n) o))
    (hchg : ∀ n, n < s.next → (ty n).live = true → s'.heap.get n = s.heap.get n ∨ ∃ o, s'.heap.get n = some o ∧ TyObj P ty' (ty n) o)
    (hno : ∀ n, n < s.next → (ty n).isNo = true → s'.heap.get n = s.heap.get n) : Inv P ty' s' ∧ Grow ty s ty' s' := by
  refine ⟨⟨fun n h => ?_, fun i hi => ?_, fun n i h => ?_, fun n h => ?_⟩, hn, fun n hlt h => ⟨?_, hno n hlt h⟩⟩
  · cases hy : (ty n).isNo with
    | false => exact Nat.lt_of_lt_of_le (hI.lt n hy) hn
    | true => exact (hnew n h hy).2.2.1
  · rw [hext _ (by rw [hI.fx i hi]; rfl)]; exact hI.fx i hi
  · cases hy : (ty n).isNo with
    | false => rw [hext n hy] at h; exact hI.un n i h
    | true => exact absurd h ((hnew n (by rw [h]; rfl) hy).1 i)
  · cases hy : (ty n).isNo with
    | true => exact (hnew n (live_isNo h) hy).2.2.2 h
    | false =>
      have e := hext n hy
      rw [e] at h ⊢
      rcases hchg n (hI.lt n hy) h with h1 | h1
      · obtain ⟨o, h2, h3⟩ := hI.obj n h
        exact ⟨o, by rw [h1, h2], h3.mono hext⟩
      · exact h1
  · cases hy : (ty' n).isNo with
    | true => rfl
    | false => exact absurd (hnew n hy h).2.1 (by omega)

/-! ### making -/
def lenMV (x : Value) (s : St) : Option (Value × St) := match x with
  | .map none => some (.int .i64 0, s)
  | .map (some r) => match s.heap.get r with
    | some (.map es _) => some (.int .i64 es.length, s)
    | _ => none
  | _ => none

theorem run_lenM {a : Nat} {nm : Option Nat} : opRun (tE prim) (evO ρ) (gop (.call ⟨.builtin .len, #[(.tmp a)], #[192]⟩)) nm s = lenMV (ρ a) s := by
  have h192 : (tE prim).ty.get 192 = some ti192 := rfl
  have hu : ti192.und = .map 22 262 := rfl
  unfold opRun lenMV
  simp only [gop, cls, clsB, aread, evalL, evO, h192, hu]
  generalize ρ a = v
  cases v <;> try rfl
  rename_i r
  cases r with
  | none => rfl
  | some r =>
    simp only
    cases s.heap.get r with
    | none => rfl
    | some o => cases o <;> rfl

theorem lenMV_map {r : Nat} {es : List MapEntry} {c : Nat} (h : s.heap.get r = some (.map es c)) : lenMV (.map (some r)) s = some (.int .i64 es.length, s) := by unfold lenMV; simp only [h]

theorem repN_ids : ∀ (k : Nat), repN k [.int .i64 0, .int .u64 0] = idCells (List.replicate k (0, 0))
  | 0 => rfl
  | k + 1 => by
    unfold repN
    rw [repN_ids k, List.replicate_succ]; rfl

theorem repN_vals : ∀ (k : Nat), repN k [.int .u64 0] = (List.replicate k (0 : Int)).map (.int .u64)
  | 0 => rfl
  | k + 1 => by
    unfold repN
    rw [repN_vals k, List.replicate_succ]; rfl

noncomputable def mkG55 (prim : PrimF) (x : Value) (nm : Option Nat) (s : St) : Option (Value × St) := opRun (tE prim) (fun _ => some x) (gop (.makeSlice 55 (.tmp 0) (.tmp 0))) nm s

theorem run_mk55 {a : Nat} {nm : Option Nat} : opRun (tE prim) (evO ρ) (gop (.makeSlice 55 (.tmp a) (.tmp a))) nm s = mkG55 prim (ρ a) nm s := rfl

theorem mkG55_ok {n : Nat} {k : Int} (h0 : 0 ≤ k) (h7 : k ≤ 7) : mkG55 prim (.int .i64 k) (some n) s =
    some (.slice (some ⟨n, 0, none⟩) k.toNat k.toNat, { s with heap := s.heap.set n (.cells (idCells (List.replicate k.toNat (0, 0))) none false) }) := by
  have h55 : (tE prim).ty.get 55 = some ti55 := rfl
  have hu : ti55.und = .slice 54 := rfl
  have h54 : (tE prim).ty.get 54 = some ti54 := rfl
  have hb : ti54.bytes = 16 := rfl
  have hs : ti54.size = 2 := rfl
  have hz : ti54.zero = [.int .i64 0, .int .u64 0] := rfl
  unfold mkG55 opRun
  simp only [gop, cls, aalloc, h55, hu, h54, hb, hs, hz]
  rw [if_pos ⟨h0, by omega, by unfold most; omega, by unfold most; omega, by omega, by rfl⟩]
  simp only [repN_ids]

noncomputable def mkG36 (prim : PrimF) (x : Value) (nm : Option Nat) (s : St) : Option (Value × St) := opRun (tE prim) (fun _ => some x) (gop (.makeSlice 36 (.tmp 0) (.tmp 0))) nm s

theorem run_mk36 {a : Nat} {nm : Option Nat} : opRun (tE prim) (evO ρ) (gop (.makeSlice 36 (.tmp a) (.tmp a))) nm s = mkG36 prim (ρ a) nm s := rfl

theorem mkG36_ok {n : Nat} {k : Int} (h0 : 0 ≤ k) (h7 : k ≤ 7) : mkG36 prim (.int .i64 k) (some n) s =
    some (.slice (some ⟨n, 0, none⟩) k.toNat k.toNat, { s with heap := s.heap.set n (.cells ((List.replicate k.toNat (0 : Int)).map (.int .u64)) none false) }) := by
  have h55 : (tE prim).ty.get 36 = some ti36 := rfl
  have hu : ti36.und = .slice 22 := rfl
  have h54 : (tE prim).ty.get 22 = some ti22 := rfl
  have hb : ti22.bytes = 8 := rfl
  have hs : ti22.size = 1 := rfl
  have hz : ti22.zero = [.int .u64 0] := rfl
  unfold mkG36 opRun
  simp only [gop, cls, aalloc, h55, hu, h54, hb, hs, hz]
  rw [if_pos ⟨h0, by omega, by unfold most; omega, by unfold most; omega, by omega, by rfl⟩]
  simp only [repN_vals]

noncomputable def msG (prim : PrimF) (m k v : Value) (s : St) : Option (Value × St) := match amapset (tE prim) s 192 m k v with
  | some s' => some (undef, s')
  | none => none

theorem run_mset {a b c : Nat} {nm : Option Nat} : opRun (tE prim) (evO ρ) (gop (.mapUpdate 192 (.tmp a) (.tmp b) (.tmp c))) nm s = msG prim (ρ a) (ρ b) (ρ c) s := rfl

theorem mem_setI {v : Value} : ∀ {es : List MapEntry} {i : Nat} {e : MapEntry}, e ∈ setI v es i → e ∈ es ∨ ∃ f ∈ es, e = { f with val := v }
  | [], i, e, h => by cases h
  | f :: es, 0, e, h => by
    rcases List.mem_cons.1 h with rfl | h
    · exact .inr ⟨f, by simp, rfl⟩
    · exact .inl (by simp [h])
  | f :: es, i + 1, e, h => by
    rcases List.mem_cons.1 h with rfl | h
    · exact .inl (by simp)
    · rcases mem_setI h with h | ⟨g, hg, he⟩
      · exact .inl (by simp [h])
      · exact .inr ⟨g, by simp [hg], he⟩

/-- A value under a number: the map's entries are those that were, and this one. -/
theorem setI_len {v : Value} : ∀ {es : List MapEntry} {i : Nat}, (setI v es i).length = es.length
  | [], 0 => rfl
  | [], _ + 1 => rfl
  | _ :: _, 0 => rfl
  | _ :: es, i + 1 => by simp only [setI, List.length_cons, setI_len (es := es) (i := i)]

theorem msG_ok {n : Nat} {es : List MapEntry} {c : Nat} {x : Int} {v : Value} (hg : s.heap.get n = some (.map es c)) (h : ∀ e ∈ es, ∃ k, e.key = .int .u64 k) :
    ∃ es' c', msG prim (.map (some n)) (.int .u64 x) v s = some (undef, { s with heap := s.heap.set n (.map es' c') }) ∧
      es'.length ≤ es.length + 1 ∧ ∀ e ∈ es', (∃ k, e.key = .int .u64 k) ∧ (e ∈ es ∨ e.val = v) := by
  have h192 : (tE prim).ty.get 192 = some ti192 := rfl
  have hu : ti192.und = .map 22 262 := rfl
  have hk : keyOk (tE prim) 6 22 (.int .u64 x) = true := rfl
  unfold msG amapset
  simp only [h192, hu, hg, hk, cond_true, findI_u h]
  cases hf : es.findIdx? (isKey x) with
  | none =>
    refine ⟨es ++ [{ key := .int .u64 x, val := v, born := c }], c + 1, rfl, by simp, fun e he => ?_⟩
    rcases List.mem_append.1 he with he | he
    · exact ⟨h e he, .inl he⟩
    · simp at he; subst he; exact ⟨⟨x, rfl⟩, .inr rfl⟩
  | some i =>
    obtain ⟨h1, h3, _⟩ := List.findIdx?_eq_some_iff_getElem.1 hf
    obtain ⟨k, hkk⟩ := h es[i] (List.getElem_mem h1)
    have hx : x = k := by unfold isKey at h3; rw [hkk] at h3; simpa using h3
    have hg2 : es[i]? = some es[i] := by simp [h1]
    simp only [Option.map_some, Nat.add_zero, hg2]
    have hp : (keyPlain 6 (.int .u64 x) && sameV es[i].key (.int .u64 x)) = true := by
      rw [hkk, hx, sameV_int]; rfl
    rw [hp]
    refine ⟨setI v es i, c, rfl, by rw [setI_len]; omega, fun e he => ?_⟩
    rcases mem_setI he with he | ⟨f, hf, rfl⟩
    · exact ⟨h e he, .inl he⟩
    · exact ⟨h f hf, .inr rfl⟩

theorem msG_run {n : Nat} {es : List MapEntry} {c : Nat} {x : Int} {v : Value} {K : Value → St → Prop} (hg : s.heap.get n = some (.map es c)) (h : ∀ e ∈ es, ∃ k, e.key = .int .u64 k)
    (hk : ∀ es' c', es'.length ≤ es.length + 1 → (∀ e ∈ es', (∃ k, e.key = .int .u64 k) ∧ (e ∈ es ∨ e.val = v)) → K undef { s with heap := s.heap.set n (.map es' c') }) : runK (msG prim (.map (some n)) (.int .u64 x) v s) K := by
  obtain ⟨es', c', h1, h0, h2⟩ := msG_ok (prim := prim) (x := x) (v := v) hg h
  rw [h1]
  exact hk es' c' h0 h2

attribute [simp] run_lenM run_mset eq54 run_mk55 run_mk36 mkG55_ok mkG36_ok

theorem Make_ok (hP : POnly prim) (hL : LayOk P) (hI : Inv P ty s) {k l : Int}
    (hq : ∀ a e ty' s', Inv P ty' s' → Grow ty s ty' s' → Q (.tuple #[.int .u64 a, .int .i64 e]) s') :
    WC (tE prim) 60 [P.p 1, .int .i64 k, .int .i64 l] s Q := by
  refine WC_fn (fm60 prim (hP.no _)) rfl ?_
  simp (disch := omega) [m60]
  refine fields_ok hP ?_
  by_cases hk : ¬ (0 ≤ k ∧ k ≤ 7)
  · have hb : (decide (0 ≤ k) && decide (k ≤ 7)) = false := by
      rw [Bool.and_eq_false_iff]
      by_cases h : 0 ≤ k
      · right; simp; omega
      · left; simpa using h
    rw [hb]
    simp (disch := omega)
    exact hq _ _ _ _ hI .refl
  have hk := Classical.not_not.1 hk
  simp (disch := omega) [hk]
  refine fields_ok hP ?_
  by_cases hl : ¬ (0 ≤ l ∧ l ≤ 7)
  · have hb : (decide (0 ≤ l) && decide (l ≤ 7)) = false := by
      rw [Bool.and_eq_false_iff]
      by_cases h : 0 ≤ l
      · right; simp; omega
      · left; simpa using h
    rw [hb]
    simp (disch := omega)
    exact hq _ _ _ _ hI .refl
  have hl := Classical.not_not.1 hl
  obtain ⟨o1, h1, last, rfl⟩ := hI.fixed 1 (.inl (by decide))
  obtain ⟨es, c, hm⟩ := hI.map
  have h5 := hm.get
  have k1 : Keep s ⟨s.heap, s.next + 11⟩ := ⟨by simp only; omega, fun n hn => rfl⟩
  have hlen := lenMV_map (s := ⟨s.heap, s.next + 11⟩) h5
  by_cases hmost : P.ob ≤ es.length
  · simp (disch := omega) [hl, h1, hlen, hmost]
    exact hq _ _ _ _ (hI.keep k1) (.of_keep k1)
  by_cases hlast : last = 72057594037927935
  · simp (disch := omega) [hl, h1, hlen, hmost, hlast]
    exact hq _ _ _ _ (hI.keep k1) (.of_keep k1)
  simp (disch := omega) [hl, h1, hlen, hmost, hlast]
  refine alloc_ok hP hL (hI.keep k1) fun cell e s2 hI2 hG2 hk5 => ?_
  have hG := (Grow.of_keep (ty := ty) k1).trans hG2
  by_cases he : ¬ e = 0
  · simp (disch := omega) [he]
    exact hq _ _ _ _ hI2 hG
  have he := Classical.not_not.1 he
  obtain ⟨o1, h1, last, rfl⟩ := hI2.fixed 1 (.inl (by decide))
  have f1 := hI2.fx 1 (.inl (by decide))
  have l1 := hI2.ltn 1 (.inl (by decide))
  have l5 := hI2.ltn 5 (.inl (by decide))
  have ne15 := hI2.ne (.inl (by decide : 1 < 22)) (.inl (by decide : 5 < 22)) (by decide)
  have ne51 : P.nm 5 ≠ P.nm 1 := fun h => ne15 h.symm
  obtain ⟨es2, c2, hm2⟩ := hI2.map
  have h52 := hm2.get
  have hes2 : es2 = es := by
    rw [h52] at hk5
    simp only [h5] at hk5
    cases hk5; rfl
  subst hes2
  simp (disch := omega) [he, h1]
  refine msG_run (es := es2) (c := c2) (by simp (disch := omega) [h52]) hm2.key fun es' c' hle hes' => ?_
  simp (disch := omega)
  generalize hlast : IntKind.u64.wrap (last + 1) = last'
  generalize hs : (St.mk _ _) = s'
  let ty' : Nat → Ty := fun n => if n = s2.next + 10 then .refs k.toNat else if n = s2.next + 12 then .vals l.toNat else if n = s2.next + 14 then .thing else ty n
  have tlt : ∀ n, (ty n).isNo = false → n < s2.next := hI2.lt
  have told : ∀ n, n < s2.next → ty' n = ty n := fun n hn => by
    simp only [ty']
    rw [if_neg (by omega), if_neg (by omega), if_neg (by omega)]
  have t10 : ty' (s2.next + 10) = .refs k.toNat := by simp [ty']
  have t12 : ty' (s2.next + 12) = .vals l.toNat := by simp [ty']
  have t14 : ty' (s2.next + 14) = .thing := by simp [ty']
  have hnx : s'.next = s2.next + 16 := by rw [← hs]
  have fin : Inv P ty' s' ∧ Grow ty s2 ty' s' := by
    refine hI2.extend (fun n hn => told n (tlt n hn)) (by omega) (fun n h1 h2 => ?_) (fun n hn hl => ?_) (fun n hn hno => ?_)
    · have hcase : n = s2.next + 10 ∨ n = s2.next + 12 ∨ n = s2.next + 14 := by
        rcases Nat.decEq n (s2.next + 10) with h10 | h10
        · rcases Nat.decEq n (s2.next + 12) with h12 | h12
          · rcases Nat.decEq n (s2.next + 14) with h14 | h14
            · exfalso
              simp only [ty', if_neg h10, if_neg h12, if_neg h14] at h1
              rw [h2] at h1; cases h1
            · exact .inr (.inr h14)
          · exact .inr (.inl h12)
        · exact .inl h10
      refine ⟨fun i => by rcases hcase with rfl | rfl | rfl <;> (first | rw [t10] | rw [t12] | rw [t14]) <;> exact (fun h => by cases h), by omega, by omega, fun _ => ?_⟩
      rcases hcase with rfl | rfl | rfl
      · rw [t10]
        exact ⟨.cells (idCells (List.replicate k.toNat (0, 0))) none false, by rw [← hs]; simp (disch := omega), List.replicate k.toNat (0, 0), by simp, rfl⟩
      · rw [t12]
        exact ⟨.cells ((List.replicate l.toNat (0 : Int)).map (.int .u64)) none false, by rw [← hs]; simp (disch := omega), List.replicate l.toNat 0, by simp, rfl⟩
      · rw [t14]
        exact ⟨_, by rw [← hs]; simp (disch := omega), cell, s2.next + 10, k.toNat, s2.next + 12, l.toNat, 0, rfl, t10, t12, by omega, by omega⟩
    · by_cases e1 : n = P.nm 1
      · subst e1
        right
        rw [f1]
        exact ⟨_, by rw [← hs]; simp (disch := omega), last', rfl⟩
      by_cases e5 : n = P.nm 5
      · subst e5
        right
        rw [hI2.fx 5 (.inl (by decide))]
        refine ⟨.map es' c', by rw [← hs]; simp (disch := omega), es', c', rfl, by omega, fun e he => ?_⟩
        obtain ⟨⟨kk, hkk⟩, h | h⟩ := hes' e he
        · obtain ⟨k2, t2, h3, h4, h5⟩ := hm2.ent e h
          exact ⟨k2, t2, h3, h4, by rw [told _ (tlt _ (by rw [h5]; rfl)), h5]⟩
        · exact ⟨kk, _, hkk, h, t14⟩
      · left
        rw [← hs]; simp (disch := omega)
    · have e1 : n ≠ P.nm 1 := fun h => by rw [h, f1] at hno; cases hno
      have e5 : n ≠ P.nm 5 := fun h => by rw [h, hI2.fx 5 (.inl (by decide))] at hno; cases hno
      rw [← hs]; simp (disch := omega)
  exact hq _ _ _ _ fin.1 (hG.trans fin.2)

end Go.Sh

namespace Go.Sh
open Go
open Go.Proofs

variable {prim : PrimF} {s : St} {Q : Value → St → Prop} {P : Lay} {ty : Nat → Ty} {ρ : Rho}

/-! ### slices without elements, and more behind them -/
theorem run_lit55s {n : Nat} : opRun (tE prim) (evO ρ) (gop (.buildSlice 55 0 #[])) (some n) s = some (.slice (some ⟨n, 0, none⟩) 0 0, { s with heap := s.heap.set n (.cells [] none false) }) := rfl
theorem run_lit55n : opRun (tE prim) (evO ρ) (gop (.buildSlice 55 0 #[])) none s = some (.slice (some ⟨s.next, 0, none⟩) 0 0, { heap := s.heap.set s.next (.cells [] none false), next := s.next + 1 }) := rfl
theorem run_lit36s {n : Nat} : opRun (tE prim) (evO ρ) (gop (.buildSlice 36 0 #[])) (some n) s = some (.slice (some ⟨n, 0, none⟩) 0 0, { s with heap := s.heap.set n (.cells [] none false) }) := rfl
theorem run_lit36n : opRun (tE prim) (evO ρ) (gop (.buildSlice 36 0 #[])) none s = some (.slice (some ⟨s.next, 0, none⟩) 0 0, { heap := s.heap.set s.next (.cells [] none false), next := s.next + 1 }) := rfl

noncomputable def appG (prim : PrimF) (t u : Nat) (x y : Value) (s : St) : Option (Value × St) := aappend (tE prim) s [t, u] [x, y]

theorem run_app {t u a b : Nat} {nm : Option Nat} : opRun (tE prim) (evO ρ) (gop (.call ⟨.builtin .append, #[(.tmp a), (.tmp b)], #[t, u]⟩)) nm s = appG prim t u (ρ a) (ρ b) s := rfl

/-- A slice without elements. -/
def ZS (s : St) (z : Value) : Prop := z = .slice none 0 0 ∨ ∃ m cs e ro, z = .slice (some ⟨m, 0, none⟩) 0 0 ∧ m < s.next ∧ s.heap.get m = some (.cells cs e ro)

theorem ZS.keep {s' : St} {z : Value} (h : ZS s z) (hk : Keep s s') : ZS s' z := by
  rcases h with h | ⟨m, cs, e, ro, h1, h2, h3⟩
  · exact .inl h
  · exact .inr ⟨m, cs, e, ro, h1, Nat.lt_of_lt_of_le h2 hk.next, by rw [hk.get m h2, h3]⟩

theorem app55_z {n : Nat} {z : Value} (h : ZS s z) : appG prim 55 55 (.slice (some ⟨n, 0, none⟩) 0 0) z s = some (.slice (some ⟨n, 0, none⟩) 0 0, s) := by
  rcases h with rfl | ⟨m, cs, e, ro, rfl, h2, h3⟩
  · rfl
  · have h55 : (tE prim).ty.get 55 = some ti55 := rfl
    have hu : ti55.und = .slice 54 := rfl
    have h54 : (tE prim).ty.get 54 = some ti54 := rfl
    have hs : ti54.size = 2 := rfl
    unfold appG aappend
    simp only [h55, hu, isNum, cond_false, h54, lenOf, hs, firstN, h3, Nat.zero_mul, Option.isSome_none, takeN_zero]
    rfl

attribute [simp] run_lit55s run_lit55n run_lit36s run_lit36n run_app eq54

abbrev callV' (to num op field tn ts : Value) (refs value st code result back sent wait born : Value) : Value := .agg #[to, num, op, field, tn, ts, refs, value, st, code, result, back, sent, wait, born]

theorem twin_ok (hP : POnly prim) {to num op field tn ts value st code back sent wait born : Int} {z1 z2 : Value} (h1 : ZS s z1) (h2 : ZS s z2) (hc1 : isCell z1 = true) (hc2 : isCell z2 = true) (hcc1 : cellsOf z1 = [z1]) (hcc2 : cellsOf z2 = [z2])
    (hq : ∀ a b s', Keep s s' → s.next ≤ a → s.next ≤ b → a ≠ b → a < s'.next → b < s'.next → s'.heap.get a = some (.cells [] none false) → s'.heap.get b = some (.cells [] none false) →
      Q (callV' (.int .i64 to) (.int .u64 num) (.int .i64 op) (.int .i64 field) (.int .i64 tn) (.int .u64 ts) (.slice (some ⟨a, 0, none⟩) 0 0) (.int .u64 value) (.int .i64 st) (.int .i64 code) (.slice (some ⟨b, 0, none⟩) 0 0)
        (.int .u64 back) (.int .u64 sent) (.int .u64 wait) (.int .u64 born)) s') :
    WC (tE prim) 93 [callV' (.int .i64 to) (.int .u64 num) (.int .i64 op) (.int .i64 field) (.int .i64 tn) (.int .u64 ts) z1 (.int .u64 value) (.int .i64 st) (.int .i64 code) z2 (.int .u64 back) (.int .u64 sent) (.int .u64 wait) (.int .u64 born)] s Q := by
  refine WC_fn (fm93 prim (hP.no _)) rfl ?_
  have a1 : ∀ s' : St, Keep s s' → ∀ n, appG prim 55 55 (.slice (some ⟨n, 0, none⟩) 0 0) z1 s' = some (.slice (some ⟨n, 0, none⟩) 0 0, s') := fun s' hk n => app55_z (h1.keep hk)
  have a2 : ∀ s' : St, Keep s s' → ∀ n, appG prim 55 55 (.slice (some ⟨n, 0, none⟩) 0 0) z2 s' = some (.slice (some ⟨n, 0, none⟩) 0 0, s') := fun s' hk n => app55_z (h2.keep hk)
  simp (disch := first | omega | (apply Keep.mk; first | omega | (simp only; omega); intro n hn; simp (disch := omega); done)) [m93, a1, a2, hc1, hc2, hcc1, hcc2]
  exact hq (s.next + 2) (s.next + 3) _ ⟨by simp only; omega, fun n hn => by simp (disch := omega)⟩ (by omega) (by omega) (by omega) (by simp only; omega) (by simp only; omega) (by simp (disch := omega)) (by simp (disch := omega))

/-! ### a request -/
abbrev reqV (fr to num floor op field tn ts : Int) (refs : Value) (value : Int) : Value := .agg #[.int .i64 1, .int .i64 fr, .int .i64 to, .int .u64 num, .int .u64 floor, .int .i64 op, .int .i64 field, .int .i64 0, .int .i64 tn, .int .u64 ts, refs, .int .u64 value,
  .int .i64 0, .int .u64 0, .int .i64 0, .int .u64 0, .int .i64 0, .int .u64 0, .slice none 0 0]

theorem asks_ok (hP : POnly prim) (hL : LayOk P) (hI : Inv P ty s) {to num op field tn ts value st code back sent wait born floor : Int} {z1 z2 : Value} (h1 : ZS s z1) (hc1 : isCell z1 = true) (hcc1 : cellsOf z1 = [z1]) (hcc2 : cellsOf z2 = [z2])
    (hq : ∀ a s', Keep s s' → s.next ≤ a → a < s'.next → s'.heap.get a = some (.cells [] none false) → Q (reqV 1 to num floor op field tn ts (.slice (some ⟨a, 0, none⟩) 0 0) value) s') :
    WC (tE prim) 144 [P.p 13, callV' (.int .i64 to) (.int .u64 num) (.int .i64 op) (.int .i64 field) (.int .i64 tn) (.int .u64 ts) z1 (.int .u64 value) (.int .i64 st) (.int .i64 code) z2 (.int .u64 back) (.int .u64 sent) (.int .u64 wait) (.int .u64 born), .int .u64 floor] s Q := by
  refine WC_fn (fm144 prim (hP.no _)) rfl ?_
  have h13 := hI.const 13 (by decide)
  have l13 := hI.ltn 13 (.inl (by decide))
  have a1 : ∀ s' : St, Keep s s' → ∀ n, appG prim 55 55 (.slice (some ⟨n, 0, none⟩) 0 0) z1 s' = some (.slice (some ⟨n, 0, none⟩) 0 0, s') := fun s' hk n => app55_z (h1.keep hk)
  simp (disch := first | omega | (apply Keep.mk; first | omega | (simp only; omega); intro n hn; simp (disch := omega); done)) [m144, a1, hc1, hcc1, hcc2, h13, hL.cts]
  exact hq (s.next + 2 + 17) _ ⟨by simp only; omega, fun n hn => by simp (disch := omega)⟩ (by omega) (by simp only; omega) (by simp (disch := omega))

theorem win_ok (hP : POnly prim) {n l m : Int} (hq : Q (.bool (decide (l ≤ n) && decide (n ≤ m))) s) : WC (tE prim) 158 [.int .i64 n, .int .i64 l, .int .i64 m] s Q := by
  refine WC_fn (fm158 prim (hP.no _)) rfl ?_
  by_cases h : l ≤ n
  · simp [m158, h]; simpa [h] using hq
  · simp [m158, h]; simpa [h] using hq

theorem serial_ok (hP : POnly prim) {n : Int} (hq : Q (.bool (decide (1 ≤ n) && decide (n ≤ 72057594037927935))) s) : WC (tE prim) 166 [.int .u64 n] s Q := by
  refine WC_fn (fm166 prim (hP.no _)) rfl ?_
  by_cases h : 1 ≤ n
  · simp [m166, h]; simpa [h] using hq
  · simp [m166, h]; simpa [h] using hq

noncomputable def beqG (prim : PrimF) (x y : Value) (nm : Option Nat) (s : St) : Option (Value × St) := opRun (tE prim) (fun o => match o with
  | .tmp 0 => some x
  | _ => some y) (gop (.binOp .eql 4 (.tmp 0) (.tmp 1) 4)) nm s
theorem run_beq {a b : Nat} {nm : Option Nat} : opRun (tE prim) (evO ρ) (gop (.binOp .eql 4 (.tmp a) (.tmp b) 4)) nm s = beqG prim (ρ a) (ρ b) nm s := rfl
theorem beqG_ok {nm : Option Nat} {x y : Bool} : beqG prim (.bool x) (.bool y) nm s = some (.bool (x == y), s) := by
  have h4 : (tE prim).ty.get 4 = some ti4 := rfl
  have hu : ti4.und = .bool := rfl
  unfold beqG opRun
  simp only [gop, cls, h4, hu, isInt, cond_true, apure]

attribute [simp] run_beq beqG_ok

theorem kinds_ok (hP : POnly prim) (hq : ∀ z, Q (.int .i64 z) s) : WC (tE prim) 157 [.int .i64 1] s Q := by
  refine WC_fn (fm157 prim (hP.no _)) rfl ?_
  simp (disch := omega) [m157]
  exact hq _

def pow2 (f : Int) : Prop := f = 1 ∨ f = 2 ∨ f = 4 ∨ f = 8 ∨ f = 16 ∨ f = 32 ∨ f = 64 ∨ f = 128 ∨ f = 256 ∨ f = 512 ∨ f = 1024 ∨ f = 2048 ∨ f = 4096 ∨ f = 8192 ∨ f = 16384

theorem shl_pow2 {f : Int} (h : pow2 f) : shlI .i64 f 1 = 2 * f := by
  rcases h with rfl | rfl | rfl | rfl | rfl | rfl | rfl | rfl | rfl | rfl | rfl | rfl | rfl | rfl | rfl <;> decide

theorem bare_ok (hP : POnly prim) {to op field value f : Int} {a : Nat} (hf : pow2 f) (hq : ∀ r s', Keep s s' → Q (.bool r) s') :
    WC (tE prim) 160 [reqV 1 to 1 1 op field 0 0 (.slice (some ⟨a, 0, none⟩) 0 0) value, .int .i64 f] s Q := by
  refine WC_fn (fm160 prim (hP.no _)) rfl ?_
  rcases hf with rfl | rfl | rfl | rfl | rfl | rfl | rfl | rfl | rfl | rfl | rfl | rfl | rfl | rfl | rfl
  all_goals
    simp (disch := omega) [m160]
    first
    | exact hq _ _ ⟨by first | omega | (simp only; omega), fun n hn => by simp (disch := omega)⟩
    | trace_state

theorem ops_ok (hP : POnly prim) {k : Int} (hq : ∀ z, Q (.int .i64 z) s) : WC (tE prim) 167 [.int .i64 k] s Q := by
  refine WC_fn (fm167 prim (hP.no _)) rfl ?_
  by_cases h : k = 8
  · simp (disch := omega) [m167, h]; exact hq _
  · simp (disch := omega) [m167, h]; exact hq _

theorem codes_ok (hP : POnly prim) {k : Int} (hq : ∀ z, Q (.int .i64 z) s) : WC (tE prim) 170 [.int .i64 k] s Q := by
  refine WC_fn (fm170 prim (hP.no _)) rfl ?_
  by_cases h : k = 9
  · simp (disch := omega) [m170, h]; exact hq _
  · simp (disch := omega) [m170, h]; exact hq _

theorem Keep.box {s' : St} {o : AObj} (h : Keep ⟨s.heap.set s.next o, s.next + 1⟩ s') : Keep s s' :=
  ⟨by have := h.next; simp only at this; omega, fun n hn => by rw [h.get n (by simp only; omega)]; exact get_other (by omega)⟩

theorem rightZ_ok (hP : POnly prim) (hq : ∀ s', Keep s s' → Q (.bool true) s') : WC (tE prim) 168 [idV 0 0] s Q := by
  refine WC_fn (fm168 prim (hP.no _)) rfl ?_
  simp (disch := omega) [m168]
  exact hq _ ⟨by first | omega | (simp only; omega), fun n hn => by simp (disch := omega)⟩

theorem allRight_ok (hP : POnly prim) {a : Option Addr} {c : Nat} (hq : Q (.bool true) s) : WC (tE prim) 171 [.slice a 0 c] s Q := by
  refine WC_fn (fm171 prim (hP.no _)) rfl ?_
  simp (disch := omega) [m171]
  refine loop_exit ?_
  simp (disch := omega)
  exact hq

theorem rising_ok (hP : POnly prim) {a : Option Addr} {c : Nat} (hq : Q (.bool true) s) : WC (tE prim) 172 [.slice a 0 c] s Q := by
  refine WC_fn (fm172 prim (hP.no _)) rfl ?_
  simp (disch := omega) [m172]
  refine loop_exit ?_
  simp (disch := omega)
  exact hq

theorem aims_ok (hP : POnly prim) {to op field value : Int} {a : Nat} (hq : ∀ r s', Keep s s' → Q (.bool r) s') :
    WC (tE prim) 169 [reqV 1 to 1 1 op field 0 0 (.slice (some ⟨a, 0, none⟩) 0 0) value] s Q := by
  refine WC_fn (fm169 prim (hP.no _)) rfl ?_
  by_cases h1 : op = 1
  · simp (disch := omega) [m169, h1]
    exact hq _ _ ⟨by first | omega | (simp only; omega), fun n hn => by simp (disch := omega)⟩
  by_cases h6 : op = 6
  · simp (disch := omega) [m169, h1, h6]
    exact hq _ _ ⟨by first | omega | (simp only; omega), fun n hn => by simp (disch := omega)⟩
  · simp (disch := omega) [m169, h1, h6]
    exact hq _ _ ⟨by first | omega | (simp only; omega), fun n hn => by simp (disch := omega)⟩

theorem fits_ok (hP : POnly prim) {to op field value f : Int} {a : Nat} (hf : pow2 f) (hq : ∀ r s', Keep s s' → Q (.bool r) s') :
    WC (tE prim) 159 [reqV 1 to 1 1 op field 0 0 (.slice (some ⟨a, 0, none⟩) 0 0) value, .int .i64 f] s Q := by
  refine WC_fn (fm159 prim (hP.no _)) rfl ?_
  rcases hf with rfl | rfl | rfl | rfl | rfl | rfl | rfl | rfl | rfl | rfl | rfl | rfl | rfl | rfl | rfl
  all_goals
    simp (disch := omega) [m159]
    first
    | exact hq _ _ ⟨by first | omega | (simp only; omega), fun n hn => by simp (disch := omega)⟩
    | (refine serial_ok hP ?_
       simp (disch := omega)
       exact hq _ _ ⟨by first | omega | (simp only; omega), fun n hn => by simp (disch := omega)⟩)
    | (refine win_ok hP ?_
       simp (disch := omega)
       exact hq _ _ ⟨by first | omega | (simp only; omega), fun n hn => by simp (disch := omega)⟩)
    | (refine ops_ok hP fun z => ?_
       simp (disch := omega)
       refine win_ok hP ?_
       simp (disch := omega)
       exact hq _ _ ⟨by first | omega | (simp only; omega), fun n hn => by simp (disch := omega)⟩)
    | (refine codes_ok hP fun z => ?_
       simp (disch := omega)
       refine win_ok hP ?_
       simp (disch := omega)
       exact hq _ _ ⟨by first | omega | (simp only; omega), fun n hn => by simp (disch := omega)⟩)
    | (refine allRight_ok hP ?_
       simp (disch := omega)
       exact hq _ _ ⟨by first | omega | (simp only; omega), fun n hn => by simp (disch := omega)⟩)
    | (refine rising_ok hP ?_
       simp (disch := omega)
       exact hq _ _ ⟨by first | omega | (simp only; omega), fun n hn => by simp (disch := omega)⟩)
    | (refine rightZ_ok hP fun s1 k1 => ?_
       have g := k1.get s.next (by simp only; omega)
       simp at g
       simp (disch := omega) [g]
       refine aims_ok hP fun r s2 k2 => ?_
       simp (disch := omega)
       exact hq _ _ (k1.box.trans k2))
    | trace_state

theorem Right_ok (hP : POnly prim) {to op field value : Int} {a : Nat} (hq : ∀ r s', Keep s s' → (r = true → 1 ≤ to ∧ to ≤ 64 ∧ to ≠ 1) → Q (.bool r) s') :
    WC (tE prim) 143 [reqV 1 to 1 1 op field 0 0 (.slice (some ⟨a, 0, none⟩) 0 0) value] s Q := by
  refine WC_fn (fm143 prim (hP.no _)) rfl ?_
  simp (disch := omega) [m143]
  refine kinds_ok hP fun z => ?_
  by_cases hz : z = 0
  · simp (disch := omega) [hz]
    exact hq _ _ ⟨by first | omega | (simp only; omega), fun n hn => by simp (disch := omega)⟩ (fun h => by cases h)
  simp (disch := omega) [hz]
  refine win_ok hP ?_
  simp (disch := omega)
  refine win_ok hP ?_
  by_cases h1 : ¬ 1 ≤ to
  · simp (disch := omega) [h1]
    exact hq _ _ ⟨by first | omega | (simp only; omega), fun n hn => by simp (disch := omega)⟩ (fun h => by cases h)
  have h1 := Classical.not_not.1 h1
  by_cases h2 : ¬ to ≤ 64
  · simp (disch := omega) [h1, h2]
    exact hq _ _ ⟨by first | omega | (simp only; omega), fun n hn => by simp (disch := omega)⟩ (fun h => by cases h)
  have h2 := Classical.not_not.1 h2
  by_cases h3 : 1 = to
  · simp (disch := omega) [h1, h2, ← h3]
    exact hq _ _ ⟨by first | omega | (simp only; omega), fun n hn => by simp (disch := omega)⟩ (fun h => by cases h)
  simp (disch := omega) [h1, h2, h3]
  refine loop_rule (fun m ρ s' => Keep s s' ∧ s.next < s'.next ∧ s'.heap.get s.next = some (.cells [.int .i64 1, .int .i64 1, .int .i64 to, .int .u64 1, .int .u64 1, .int .i64 op, .int .i64 field, .int .i64 0, .int .i64 0, .int .u64 0, .slice (some ⟨a, 0, none⟩) 0 0, .int .u64 value,
      .int .i64 0, .int .u64 0, .int .i64 0, .int .u64 0, .int .i64 0, .int .u64 0, .slice none 0 0] none false) ∧ ρ 1 = .pointer (some ⟨s.next, 0, none⟩) ∧ ρ 3 = .int .i64 z ∧ ∃ f : Int, ρ 4 = .int .i64 f ∧ (pow2 f ∨ f = 32768) ∧ 32768 - f ≤ m) ?_ 32767 ?_
  · rintro m ρ s' ⟨hk, hlt', hg, e1, e3, f, e4, hf, hm⟩
    by_cases hlt : f < 32768
    · have hf : pow2 f := hf.resolve_right (by omega)
      have hw := shl_pow2 hf
      have hf2 : pow2 (2 * f) ∨ 2 * f = 32768 := by unfold pow2 at hf ⊢; omega
      have hpos : 1 ≤ f := by unfold pow2 at hf; omega
      by_cases hb : andI .i64 z f = 0
      · simp (disch := omega) [e1, e3, e4, hg, hlt, hb]
        refine bare_ok hP hf fun r s2 k2 => ?_
        have n2 := k2.next
        have g2 := (k2.get s.next hlt').trans hg
        cases r with
        | false =>
          simp (disch := omega)
          exact hq _ _ (hk.trans k2) (fun h => by cases h)
        | true =>
          simp (disch := omega) [e1, e3, e4, hw]
          exact ⟨m - 1, by omega, hk.trans k2, by omega, g2, hf2, by omega⟩
      · simp (disch := omega) [e1, e3, e4, hg, hlt, hb]
        refine fits_ok hP hf fun r s2 k2 => ?_
        have n2 := k2.next
        have g2 := (k2.get s.next hlt').trans hg
        cases r with
        | false =>
          simp (disch := omega)
          exact hq _ _ (hk.trans k2) (fun h => by cases h)
        | true =>
          simp (disch := omega) [e1, e3, e4, hb, hw]
          exact ⟨m - 1, by omega, hk.trans k2, by omega, g2, hf2, by omega⟩
    · simp (disch := omega) [e1, e3, e4, hlt]
      exact hq _ _ hk (fun _ => ⟨h1, h2, fun h => h3 h.symm⟩)
  · simp (disch := omega)
    exact ⟨⟨by first | omega | (simp only; omega), fun n hn => by simp (disch := omega)⟩, .inl rfl⟩

end Go.Sh

namespace Go.Sh
open Go
open Go.Proofs

variable {prim : PrimF} {s : St} {Q : Value → St → Prop} {P : Lay} {ty : Nat → Ty} {ρ : Rho}

/-- The table of calls: n of them. -/
inductive TabAt (P : Lay) (ty : Nat → Ty) (s : St) : Nat → Value → Value → Prop
  | nil (h : s.heap.get (P.nm 14) = some (.cells [.slice none 0 0, .slice none 0 0, .int .i64 P.calls] none false)) : TabAt P ty s 0 (.slice none 0 0) (.slice none 0 0)
  | tab (n ka va : Nat) (hn : n ≤ P.calls) (h : s.heap.get (P.nm 14) = some (.cells [.slice (some ⟨ka, 0, none⟩) n n, .slice (some ⟨va, 0, none⟩) n n, .int .i64 P.calls] none false))
      (tk : ty ka = .keys n) (tv : ty va = .cvals n) : TabAt P ty s n (.slice (some ⟨ka, 0, none⟩) n n) (.slice (some ⟨va, 0, none⟩) n n)

theorem Inv.tab (hI : Inv P ty s) : ∃ n kv vv, TabAt P ty s n kv vv := by
  obtain ⟨o, h, n, hn, ⟨rfl, rfl⟩ | ⟨ka, va, rfl, h2, h3⟩⟩ := hI.fixed 14 (.inl (by decide))
  · exact ⟨0, _, _, .nil h⟩
  · exact ⟨n, _, _, .tab n ka va hn h h2 h3⟩

theorem Inv.keys (hI : Inv P ty s) {r k : Nat} (h : ty r = .keys k) : ∃ xs : List Int, xs.length = k ∧ r < s.next ∧ s.heap.get r = some (.cells (xs.map (.int .u64)) (some 1) false) := by
  obtain ⟨o, h1, h2⟩ := hI.obj r (by rw [h]; rfl)
  rw [h] at h2
  obtain ⟨ids, h3, rfl⟩ := h2
  exact ⟨ids, h3, hI.lt r (by rw [h]; rfl), h1⟩

theorem Inv.cvals (hI : Inv P ty s) {r k : Nat} (h : ty r = .cvals k) : ∃ xs : List CR, xs.length = k ∧ r < s.next ∧ s.heap.get r = some (.cells (xs.flatMap (CR.cells P)) (some 15) false) ∧ ∀ x ∈ xs, ty x.a = .refs 0 ∧ ty x.b = .refs 0 := by
  obtain ⟨o, h1, h2⟩ := hI.obj r (by rw [h]; rfl)
  rw [h] at h2
  obtain ⟨ids, h3, rfl, h4⟩ := h2
  exact ⟨ids, h3, hI.lt r (by rw [h]; rfl), h1, h4⟩

/-- The row of the table, whatever it is. -/
theorem TabAt.row {n : Nat} {kv vv : Value} (h : TabAt P ty s n kv vv) : s.heap.get (P.nm 14) = some (.cells [kv, vv, .int .i64 P.calls] none false) ∧ n ≤ P.calls ∧ ∃ a c b d, kv = .slice a n c ∧ vv = .slice b n d := by
  cases h with
  | nil h => exact ⟨h, Nat.zero_le _, _, _, _, _, rfl, rfl⟩
  | tab n ka va hn h tk tv => exact ⟨h, hn, _, _, _, _, rfl, rfl⟩

theorem tsearch_ok (hP : POnly prim) (hL : LayOk P) (hI : Inv P ty s) {n : Nat} {kv vv : Value} (h : TabAt P ty s n kv vv) {x : Int}
    (hq : ∀ i ok, 0 ≤ i → i ≤ (n : Int) → (ok = true → i < n) → Q (.tuple #[.int .i64 i, .bool ok]) s) : WC (tE prim) 126 [kv, .int .u64 x] s Q := by
  have hc := hL.calls1
  cases h with
  | nil h => exact search_ok hP (xs := []) (by omega) (.inl rfl) fun i ok h0 h1 h2 => hq i ok h0 h1 fun h => (h2 h).1
  | tab n ka va hn h tk tv =>
    obtain ⟨xs, h1, h2, h3⟩ := hI.keys tk
    exact search_ok hP (xs := xs) (by omega) (.inr ⟨ka, some 1, false, rfl, h3, h1⟩) fun i ok h0 h1 h2 => hq i ok h0 h1 fun h => (h2 h).1

theorem Len_ok (hP : POnly prim) {n : Nat} {kv vv : Value} (h : TabAt P ty s n kv vv) (hq : Q (.int .i64 n) s) : WC (tE prim) 145 [P.p 14] s Q := by
  refine WC_fn (fm145 prim (hP.no _)) rfl ?_
  obtain ⟨hr, hn, a, c, b, d, rfl, rfl⟩ := h.row
  simp (disch := omega) [m145, hr]
  exact hq

theorem from_ok (hP : POnly prim) (hL : LayOk P) (hI : Inv P ty s) {n : Nat} {kv vv : Value} (h : TabAt P ty s n kv vv) {i : Int} (hq : ∀ k ok, Q (.tuple #[.int .u64 k, .bool ok]) s) : WC (tE prim) 173 [P.p 14, .int .i64 i] s Q := by
  refine WC_fn (fm173 prim (hP.no _)) rfl ?_
  obtain ⟨hr, hn, a, c, b, d, rfl, rfl⟩ := h.row
  by_cases h1 : i < 0
  · simp (disch := omega) [m173, hr, h1]
    exact hq _ _
  by_cases h2 : (n : Int) ≤ i
  · simp (disch := omega) [m173, hr, h1, h2]
    exact hq _ _
  cases h with
  | nil h => omega
  | tab n ka va hn h tk tv =>
    obtain ⟨xs, h3, h4, h5⟩ := hI.keys tk
    have hi : i.toNat < xs.length := by omega
    simp (disch := omega) [m173, hr, h1, h2, h5]
    exact hq _ _

theorem Next_ok (hP : POnly prim) (hL : LayOk P) (hI : Inv P ty s) {x : Int} (hq : ∀ k ok, Q (.tuple #[.int .u64 k, .bool ok]) s) : WC (tE prim) 161 [P.p 14, .int .u64 x] s Q := by
  refine WC_fn (fm161 prim (hP.no _)) rfl ?_
  obtain ⟨n, kv, vv, h⟩ := hI.tab
  obtain ⟨hr, hn, a, c, b, d, e1, e2⟩ := h.row
  simp (disch := omega) [m161, hr]
  refine tsearch_ok hP hL hI h fun i ok h0 h1 h2 => ?_
  cases ok with
  | true =>
    simp (disch := omega)
    refine from_ok hP hL hI h fun k ok => ?_
    simp (disch := omega)
    exact hq _ _
  | false =>
    simp (disch := omega)
    refine from_ok hP hL hI h fun k ok => ?_
    simp (disch := omega)
    exact hq _ _

theorem other_ok (hP : POnly prim) (hL : LayOk P) (hI : Inv P ty s) {n : Int} (hq : ∀ r, (r = true ↔ 1 ≤ n ∧ n ≤ P.nd ∧ n ≠ 1) → Q (.bool r) s) : WC (tE prim) 153 [P.p 13, .int .i64 n] s Q := by
  refine WC_fn (fm153 prim (hP.no _)) rfl ?_
  have h13 := hI.const 13 (by decide)
  by_cases h1 : 1 ≤ n
  · by_cases h2 : n ≤ P.nd
    · simp (disch := omega) [m153, h13, hL.ctn, hL.cts, h1, h2]
      exact hq _ (by simp; omega)
    · simp (disch := omega) [m153, h13, hL.ctn, hL.cts, h1, h2]
      exact hq _ (by simp; omega)
  · simp (disch := omega) [m153, h13, hL.ctn, hL.cts, h1]
    exact hq _ (by simp; omega)

theorem ckey_ok (hP : POnly prim) {a b : Int} (hq : ∀ k s', Keep s s' → Q (.int .u64 k) s') : WC (tE prim) 139 [.int .i64 a, .int .u64 b] s Q := by
  refine WC_fn (fm139 prim (hP.no _)) rfl ?_
  simp (disch := omega) [m139]
  refine key_ok hP fun k s' hk => ?_
  simp (disch := omega)
  exact hq _ _ hk

theorem Inv.latest (hI : Inv P ty s) : ∃ xs : List Int, xs.length = P.nd + 1 ∧ s.heap.get (P.nm 15) = some (.cells (xs.map (.int .u64)) none false) := by
  obtain ⟨o, h, xs, h1, rfl⟩ := hI.fixed 15 (.inl (by decide))
  exact ⟨xs, h1, h⟩

theorem Floor_ok (hP : POnly prim) (hL : LayOk P) (hI : Inv P ty s) {n : Int} (hq : ∀ z s', Keep s s' → Q (.int .u64 z) s') : WC (tE prim) 146 [P.p 13, .int .i64 n] s Q := by
  refine WC_fn (fm146 prim (hP.no _)) rfl ?_
  simp (disch := omega) [m146]
  refine other_ok hP hL hI fun r hr => ?_
  cases r with
  | false =>
    simp (disch := omega)
    exact hq _ _ (Keep.refl s)
  | true =>
    have hr := hr.1 rfl
    have h13 := hI.const 13 (by decide)
    have l13 := hI.ltn 13 (.inl (by decide))
    simp (disch := omega) [h13, hL.ctq]
    refine ckey_ok hP fun k s1 k1 => ?_
    have n1 := k1.next
    simp only at n1
    have kk : Keep s s1 := ⟨by omega, fun n hn => by rw [k1.get n (by simp only; omega)]⟩
    have hI1 := hI.keep kk
    have h13' := hI1.const 13 (by decide)
    simp (disch := omega) [h13', hL.ctq]
    refine Next_ok hP hL hI1 fun x ok => ?_
    obtain ⟨xs, hlen, hlt⟩ := hI1.latest
    have hnn : n.toNat < xs.length := by omega
    cases ok with
    | false =>
      simp (disch := omega) [h13', hL.ctl, hlt]
      exact hq _ _ kk
    | true =>
      by_cases hx : IntKind.i64.wrap (shrI .u64 x 56) = n
      · simp (disch := omega) [hx]
        exact hq _ _ kk
      · simp (disch := omega) [hx, h13', hL.ctl, hlt]
        exact hq _ _ kk

/-! ### a call is laid down -/
theorem run_lit36 {a : Nat} {nm : Option Nat} : opRun (tE prim) (evO ρ) (gop (.buildSlice 36 1 #[(0, .tmp a)])) nm s = opRun (tE prim) (fun _ => some (ρ a)) (gop (.buildSlice 36 1 #[(0, .tmp 0)])) nm s := rfl
theorem lit36_n {k : Int} : opRun (tE prim) (fun _ => some (.int .u64 k)) (gop (.buildSlice 36 1 #[(0, .tmp 0)])) none s = some (.slice (some ⟨s.next, 0, none⟩) 1 1, { heap := s.heap.set s.next (.cells [.int .u64 k] none false), next := s.next + 1 }) := rfl
theorem run_lit37 {a : Nat} {nm : Option Nat} : opRun (tE prim) (evO ρ) (gop (.buildSlice 37 1 #[(0, .tmp a)])) nm s = opRun (tE prim) (fun _ => some (ρ a)) (gop (.buildSlice 37 1 #[(0, .tmp 0)])) nm s := rfl
theorem lit37_s {n : Nat} {a b c d e f g h i j k l m o p : Value} : opRun (tE prim) (fun _ => some (.agg #[a, b, c, d, e, f, g, h, i, j, k, l, m, o, p])) (gop (.buildSlice 37 1 #[(0, .tmp 0)])) (some n) s =
    some (.slice (some ⟨n, 0, none⟩) 1 1, { s with heap := s.heap.set n (.cells [a, b, c, d, e, f, g, h, i, j, k, l, m, o, p] none false) }) := rfl

attribute [local simp] run_lit36 lit36_n run_lit37 lit37_s

theorem crs_len (xs : List CR) : (xs.flatMap (CR.cells P)).length = xs.length * 15 := by
  induction xs with
  | nil => rfl
  | cons x xs ih => simp [CR.cells] at ih ⊢; omega

theorem crs_get {xs : List CR} {i : Nat} {r : CR} (h : xs[i]? = some r) : takeN 15 ((xs.flatMap (CR.cells P)).drop (i * 15)) = some (CR.cells P r) := by
  induction xs generalizing i with
  | nil => simp at h
  | cons y l ih =>
    cases i with
    | zero => simp at h; subst h; rfl
    | succ i =>
      have : (i + 1) * 15 = (CR.cells P y).length + i * 15 := by simp [CR.cells]; omega
      rw [this, List.flatMap_cons, List.drop_append]
      simp only [List.drop_eq_nil_of_le (show (CR.cells P y).length ≤ (CR.cells P y).length + i * 15 by omega), Nat.add_sub_cancel_left, List.nil_append]
      exact ih (by simpa using h)

theorem crs_set {xs : List CR} {i : Nat} {r : CR} (h : i < xs.length) : setN (xs.flatMap (CR.cells P)) (i * 15) (CR.cells P r) = some ((xs.set i r).flatMap (CR.cells P)) := by
  induction xs generalizing i with
  | nil => simp at h
  | cons y l ih =>
    cases i with
    | zero => simp [CR.cells]
    | succ i =>
      have e : (i + 1) * 15 = i * 15 + 15 := by omega
      rw [e]
      have := ih (i := i) (by simpa using h)
      simp only [List.flatMap_cons, List.set_cons_succ]
      show setN ([.int .i64 y.to, .int .u64 y.num, .int .i64 y.op, .int .i64 y.field, .int .i64 y.tn, .int .u64 y.ts, .slice (some ⟨y.a, 0, none⟩) 0 0, .int .u64 y.value, .int .i64 1, .int .i64 0,
        .slice (some ⟨y.b, 0, none⟩) 0 0, .int .u64 0, .int .u64 y.sent, .int .u64 0, .int .u64 P.born] ++ l.flatMap (CR.cells P)) (i * 15 + 15) (CR.cells P r) = _
      simp only [List.cons_append, List.nil_append, setN_succ]
      rw [this]; rfl

theorem crs_ins {xs : List CR} {i : Nat} {r : CR} : ((xs.flatMap (CR.cells P)).take (i * 15)) ++ (CR.cells P r ++ (xs.flatMap (CR.cells P)).drop (i * 15)) = (xs.take i ++ (r :: xs.drop i)).flatMap (CR.cells P) := by
  induction xs generalizing i with
  | nil => simp
  | cons y l ih =>
    cases i with
    | zero => simp
    | succ i =>
      have e : (i + 1) * 15 = (CR.cells P y).length + i * 15 := by simp [CR.cells]; omega
      rw [e, List.flatMap_cons, List.take_append, List.drop_append]
      simp only [List.drop_eq_nil_of_le (show (CR.cells P y).length ≤ (CR.cells P y).length + i * 15 by omega), List.take_of_length_le (show (CR.cells P y).length ≤ (CR.cells P y).length + i * 15 by omega), Nat.add_sub_cancel_left, List.nil_append]
      rw [List.append_assoc, ih]
      simp

theorem FixObj.mono2 {ty' : Nat → Ty} (h : ∀ n, (ty n).isNo = false → (∀ k, ty n ≠ .keys k) → (∀ k, ty n ≠ .cvals k) → ty' n = ty n) {i : Nat} (hi : i ≠ 14) {o : AObj} (ho : FixObj P ty i o) : FixObj P ty' i o := by
  match i, hi, ho with
  | 5, _, ho =>
    obtain ⟨es, c, h1, h0, h2⟩ := ho
    refine ⟨es, c, h1, h0, fun e he => ?_⟩
    obtain ⟨k, t, h3, h4, h5⟩ := h2 e he
    exact ⟨k, t, h3, h4, by rw [h t (by rw [h5]; rfl) (fun k e => by rw [h5] at e; cases e) (fun k e => by rw [h5] at e; cases e), h5]⟩
  | 14, hi, ho => exact absurd rfl hi
  | 0, _, ho => exact ho
  | 1, _, ho => exact ho
  | 2, _, ho => exact ho
  | 3, _, ho => exact ho
  | 4, _, ho => exact ho
  | 6, _, ho => exact ho
  | 7, _, ho => exact ho
  | 8, _, ho => exact ho
  | 9, _, ho => exact ho
  | 10, _, ho => exact ho
  | 11, _, ho => exact ho
  | 12, _, ho => exact ho
  | 13, _, ho => exact ho
  | 15, _, ho => exact ho
  | 16, _, ho => exact ho
  | 17, _, ho => exact ho
  | 18, _, ho => exact ho
  | 19, _, ho => exact ho
  | 20, _, ho => exact ho
  | 21, _, ho => exact ho
  | 22, _, ho => exact ho
  | 23, _, ho => exact ho
  | 24, _, ho => exact ho
  | 25, _, ho => exact ho
  | 26, _, ho => exact ho
  | 27, _, ho => exact ho
  | n + 28, _, ho => exact ho

/-- More that is typed, and rows that are no more. -/
theorem Inv.extend2 (hI : Inv P ty s) {ty' : Nat → Ty} {s' : St} {c : AObj} (hext : ∀ n, (ty n).isNo = false → (∀ k, ty n ≠ .keys k) → (∀ k, ty n ≠ .cvals k) → ty' n = ty n)
    (hdead : ∀ n, (∃ k, ty n = .keys k ∨ ty n = .cvals k) → ty' n = .dead) (hn : s.next ≤ s'.next)
    (hnew : ∀ n, (ty' n).isNo = false → (ty n).isNo = true → (∀ i, ty' n ≠ .fix i) ∧ s.next ≤ n ∧ n < s'.next ∧ ((ty' n).live = true → ∃ o, s'.heap.get n = some o ∧ TyObj P ty' (ty' n) o))
    (hc : s'.heap.get (P.nm 14) = some c) (hc' : FixObj P ty' 14 c)
    (hchg : ∀ n, n < s.next → n ≠ P.nm 14 → (∀ k, ty n ≠ .keys k) → (∀ k, ty n ≠ .cvals k) → s'.heap.get n = s.heap.get n) : Inv P ty' s' ∧ Grow ty s ty' s' := by
  have f14 := hI.fx 14 (.inl (by decide))
  have nokeys : ∀ n, (ty n).isNo = true → (∀ k, ty n ≠ .keys k) ∧ (∀ k, ty n ≠ .cvals k) := fun n h => ⟨(fun k e => by rw [e] at h; cases h), (fun k e => by rw [e] at h; cases h)⟩
  refine ⟨⟨fun n h => ?_, fun i hi => ?_, fun n i h => ?_, fun n h => ?_⟩, hn, fun n hlt h => ⟨?_, hchg n hlt (fun e => by rw [e, f14] at h; cases h) (nokeys n h).1 (nokeys n h).2⟩⟩
  · cases hy : (ty n).isNo with
    | false => exact Nat.lt_of_lt_of_le (hI.lt n hy) hn
    | true => exact (hnew n h hy).2.2.1
  · rw [hext _ (by rw [hI.fx i hi]; rfl) (fun k e => by rw [hI.fx i hi] at e; cases e) (fun k e => by rw [hI.fx i hi] at e; cases e)]; exact hI.fx i hi
  · cases hy : (ty n).isNo with
    | false =>
      by_cases hk : ∃ k, ty n = .keys k ∨ ty n = .cvals k
      · rw [hdead n hk] at h; cases h
      · rw [hext n hy (fun k e => hk ⟨k, .inl e⟩) (fun k e => hk ⟨k, .inr e⟩)] at h; exact hI.un n i h
    | true => exact absurd h ((hnew n (by rw [h]; rfl) hy).1 i)
  · cases hy : (ty n).isNo with
    | true => exact (hnew n (live_isNo h) hy).2.2.2 h
    | false =>
      by_cases hk : ∃ k, ty n = .keys k ∨ ty n = .cvals k
      · rw [hdead n hk] at h; cases h
      have hk1 : ∀ k, ty n ≠ .keys k := fun k e => hk ⟨k, .inl e⟩
      have hk2 : ∀ k, ty n ≠ .cvals k := fun k e => hk ⟨k, .inr e⟩
      have e := hext n hy hk1 hk2
      rw [e] at h ⊢
      by_cases e14 : n = P.nm 14
      · subst e14
        rw [f14]
        exact ⟨c, hc, hc'⟩
      · obtain ⟨o, h2, h3⟩ := hI.obj n h
        refine ⟨o, by rw [hchg n (hI.lt n hy) e14 hk1 hk2, h2], ?_⟩
        have keepT : ∀ m, (ty m).isNo = false → (∀ k, ty m ≠ .keys k) → (∀ k, ty m ≠ .cvals k) → ty' m = ty m := hext
        generalize hT : ty n = T at h3 hk1 hk2
        cases T with
        | fix i =>
          have hi : i ≠ 14 := by
            rintro rfl
            exact e14 (hI.un n 14 hT)
          exact FixObj.mono2 hext hi h3
        | thing =>
          obtain ⟨cell, r, k, v, l, i, h1, h2, h3, h4⟩ := h3
          exact ⟨cell, r, k, v, l, i, h1, by rw [hext r (by rw [h2]; rfl) (fun k e => by rw [h2] at e; cases e) (fun k e => by rw [h2] at e; cases e), h2],
            by rw [hext v (by rw [h3]; rfl) (fun k e => by rw [h3] at e; cases e) (fun k e => by rw [h3] at e; cases e), h3], h4⟩
        | keys k => exact absurd rfl (hk1 k)
        | cvals k => exact absurd rfl (hk2 k)
        | _ => exact h3
  · cases hy : (ty' n).isNo with
    | true => rfl
    | false => exact absurd (hnew n hy h).2.1 (by omega)

end Go.Sh

namespace Go.Sh
open Go
open Go.Proofs

variable {prim : PrimF} {s : St} {Q : Value → St → Prop} {P : Lay} {ty : Nat → Ty} {ρ : Rho}

theorem crs_word (r : CR) : allV isWord (CR.cells P r) = true := rfl
theorem crs_take (r : CR) : takeN 15 (CR.cells P r) = some (CR.cells P r) := rfl
theorem crs_cell (r : CR) : allV isCell (CR.cells P r) = true := rfl
theorem crs_length (r : CR) : (CR.cells P r).length = 15 := rfl
theorem lit37_c {n : Nat} {r : CR} : opRun (tE prim) (fun _ => some (.agg (CR.cells P r).toArray)) (gop (.buildSlice 37 1 #[(0, .tmp 0)])) (some n) s =
    some (.slice (some ⟨n, 0, none⟩) 1 1, { s with heap := s.heap.set n (.cells (CR.cells P r) none false) }) := rfl

attribute [simp] run_lit36 lit36_n run_lit37 lit37_c crs_take crs_cell crs_length

/-- One key and one call more. -/
theorem put_more (hI : Inv P ty s) {s' : St} {n kn vn : Nat} {xs : List Int} {rs : List CR} (hn : n ≤ P.calls) (hk : s.next ≤ kn) (hv : s.next ≤ vn) (hkv : kn ≠ vn) (hk' : kn < s'.next) (hv' : vn < s'.next) (hlx : xs.length = n) (hlr : rs.length = n)
    (hrs : ∀ x ∈ rs, ty x.a = .refs 0 ∧ ty x.b = .refs 0)
    (gk : s'.heap.get kn = some (.cells (xs.map (.int .u64)) (some 1) false)) (gv : s'.heap.get vn = some (.cells (rs.flatMap (CR.cells P)) (some 15) false))
    (gt : s'.heap.get (P.nm 14) = some (.cells [.slice (some ⟨kn, 0, none⟩) n n, .slice (some ⟨vn, 0, none⟩) n n, .int .i64 P.calls] none false))
    (hchg : ∀ m, m < s.next → m ≠ P.nm 14 → (∀ k, ty m ≠ .keys k) → (∀ k, ty m ≠ .cvals k) → s'.heap.get m = s.heap.get m) : ∃ ty', Inv P ty' s' ∧ Grow ty s ty' s' := by
  let ty' : Nat → Ty := fun m => if m = kn then .keys n else if m = vn then .cvals n else match ty m with
    | .keys _ => .dead
    | .cvals _ => .dead
    | t => t
  have tk : ty' kn = .keys n := by simp [ty']
  have tv : ty' vn = .cvals n := by simp [ty', Ne.symm hkv]
  have hlow : ∀ m, m < s.next → m ≠ kn ∧ m ≠ vn := fun m hm => ⟨by omega, by omega⟩
  have hsame : ∀ m, (ty m).isNo = false → (∀ k, ty m ≠ .keys k) → (∀ k, ty m ≠ .cvals k) → ty' m = ty m := by
    intro m hm h1 h2
    obtain ⟨e1, e2⟩ := hlow m (hI.lt m hm)
    simp only [ty', if_neg e1, if_neg e2]
  refine ⟨ty', hI.extend2 hsame ?_ ?_ ?_ gt ?_ hchg⟩
  · rintro m ⟨k, e⟩
    have hm : m < s.next := hI.lt m (by rcases e with e | e <;> rw [e] <;> rfl)
    obtain ⟨e1, e2⟩ := hlow m hm
    rcases e with e | e <;> simp [ty', e1, e2, e]
  · omega
  · intro m h1 h2
    by_cases e1 : m = kn
    · subst e1
      rw [tk]
      exact ⟨fun i h => (by cases h), hk, hk', fun _ => ⟨_, gk, xs, hlx, rfl⟩⟩
    by_cases e2 : m = vn
    · subst e2
      rw [tv]
      refine ⟨fun i h => (by cases h), hv, hv', fun _ => ⟨_, gv, rs, hlr, rfl, fun x hx => ?_⟩⟩
      obtain ⟨h3, h4⟩ := hrs x hx
      exact ⟨by rw [hsame _ (by rw [h3]; rfl) (fun k e => by rw [h3] at e; cases e) (fun k e => by rw [h3] at e; cases e), h3],
        by rw [hsame _ (by rw [h4]; rfl) (fun k e => by rw [h4] at e; cases e) (fun k e => by rw [h4] at e; cases e), h4]⟩
    · exfalso
      cases ht : ty m <;> rw [ht] at h2 <;> first | (cases h2; done) | (simp only [ty', if_neg e1, if_neg e2, ht] at h1; cases h1; done)
  · exact ⟨n, hn, .inr ⟨kn, vn, rfl, tk, tv⟩⟩

theorem get_del {α : Type} {t : Tr α} {n m : Nat} (h : m ≠ n) : (t.del n).get m = t.get m := by rw [Tr.get_del, if_neg h]

theorem POnly.p1 (hP : POnly prim) : (tE prim).prim 164 = some (insP 1) := hP.ins1
theorem POnly.p15 (hP : POnly prim) : (tE prim).prim 165 = some (insP 15) := hP.ins15

theorem Put_ok (hP : POnly prim) (hL : LayOk P) (hI : Inv P ty s) {k : Int} {r : CR} (ha : ty r.a = .refs 0) (hb : ty r.b = .refs 0)
    (hq : ∀ b ty' s', Inv P ty' s' → Grow ty s ty' s' → Q (.bool b) s') :
    WC (tE prim) 156 [P.p 14, .int .u64 k, .agg (CR.cells P r).toArray] s Q := by
  refine WC_fn (fm156 prim (hP.no _)) rfl ?_
  obtain ⟨n, kv, vv, hT⟩ := hI.tab
  obtain ⟨hrow, hn, a1, c1, b1, d1, e1, e2⟩ := hT.row
  have l14 := hI.ltn 14 (.inl (by decide))
  have f14 := hI.fx 14 (.inl (by decide))
  have hc64 := hL.calls1
  simp (disch := omega) [m156, hrow]
  have k1 : Keep s ⟨s.heap.set s.next (.cells (CR.cells P r) none false), s.next + 1⟩ := ⟨by simp only; omega, fun n hn => by simp (disch := omega)⟩
  have hI1 := hI.keep k1
  have hT1 : TabAt P ty ⟨s.heap.set s.next (.cells (CR.cells P r) none false), s.next + 1⟩ n kv vv := by
    cases hT with
    | nil h => exact .nil (by rw [k1.get _ l14]; exact h)
    | tab n ka va hn h tk tv => exact .tab n ka va hn (by rw [k1.get _ l14]; exact h) tk tv
  refine tsearch_ok hP hL hI1 hT1 fun i ok h0 h1 h2 => ?_
  cases ok with
  | true =>
    have hin := h2 rfl
    cases hT with
    | nil h => omega
    | tab n ka va hn h tk tv =>
      obtain ⟨xs, h3, h4, h5, h6⟩ := hI.cvals tv
      have hset := crs_set (P := P) (xs := xs) (i := i.toNat) (r := r) (by omega)
      simp (disch := omega) [h, h5, hset]
      refine (fun s' (h : Inv P ty s' ∧ Grow ty s ty s') => hq true ty s' h.1 h.2) _ (hI.set (n0 := va) (o := .cells ((xs.set i.toNat r).flatMap (CR.cells P)) (some 15) false)
          (by rw [tv]; rfl) (by rw [tv]; exact ⟨_, by simpa using h3, rfl, fun x hx => (List.mem_or_eq_of_mem_set hx).elim (h6 x) (fun e => e ▸ ⟨ha, hb⟩)⟩) (by simp only; omega) (fun n hn hne => by simp (disch := omega)) (by simp (disch := omega)))
  | false =>
    by_cases hfull : (P.calls : Int) ≤ n
    · rw [e1] at hrow
      simp (disch := omega) [hrow, hfull]
      exact hq _ _ _ (hI.keep ⟨by first | omega | (simp only; omega), fun n hn => by simp (disch := omega)⟩) (.of_keep ⟨by first | omega | (simp only; omega), fun n hn => by simp (disch := omega)⟩)
    · cases hT with
      | nil h =>
        have hi : i = 0 := by omega
        subst hi
        have hf0 : ¬ P.calls = 0 := by omega
        simp (disch := omega) [h, hfull, hf0]
        refine WC_prim hP.p1 (insP_nil (k := 1) (vs := [.int .u64 k]) ?_ rfl rfl) ?_
        · simp (disch := omega)
        simp (disch := omega) [h]
        refine WC_prim hP.p15 (insP_nil (k := 15) (vs := CR.cells P r) ?_ rfl (crs_word r)) ?_
        · simp (disch := omega)
        simp (disch := omega) [h]
        refine (fun s' (h : ∃ ty', Inv P ty' s' ∧ Grow ty s ty' s') => h.elim fun ty' h => hq true ty' s' h.1 h.2) _ (put_more (n := 1) (kn := s.next + 1 + 11 + 1) (vn := s.next + 1 + 11 + 1 + 1 + 12) (xs := [k]) (rs := [r]) hI (by omega) (by omega) (by omega) (by omega) ?_ ?_ rfl rfl
          (fun x hx => by rw [List.mem_singleton.1 hx]; exact ⟨ha, hb⟩) ?_ ?_ ?_ ?_)
        · simp only; omega
        · simp only; omega
        · simp (disch := omega)
        · simp (disch := omega)
        · simp (disch := omega)
        · intro m hm h14 _ _
          simp (disch := omega)
      | tab n ka va hn h tk tv =>
        obtain ⟨xs, h3, h4, h5⟩ := hI.keys tk
        obtain ⟨rs, h6, h7, h8, h9⟩ := hI.cvals tv
        have hf0 : ¬ P.calls ≤ n := by omega
        have ka14 : ka ≠ P.nm 14 := fun e => by rw [e, f14] at tk; cases tk
        have va14 : va ≠ P.nm 14 := fun e => by rw [e, f14] at tv; cases tv
        have kava : ka ≠ va := fun e => by rw [e, tv] at tk; cases tk
        simp (disch := omega) [h, hfull, hf0]
        refine WC_prim hP.p1 (insP_some (k := 1) (vs := [.int .u64 k]) (cs := xs.map (.int .u64)) ?_ rfl rfl h0 h1 (by omega) ?_ (by simp [h3]) ?_) ?_
        · simp (disch := omega)
        · simp (disch := omega) [h5]
        · omega
        simp (disch := omega) [h, get_del]
        refine WC_prim hP.p15 (insP_some (k := 15) (vs := CR.cells P r) (cs := rs.flatMap (CR.cells P)) ?_ rfl (crs_word r) h0 h1 (by omega) ?_ (by rw [crs_len, h6]) ?_) ?_
        · simp (disch := omega)
        · simp (disch := omega) [h8, get_del]
        · omega
        simp (disch := omega) [h, get_del]
        refine (fun s' (h : ∃ ty', Inv P ty' s' ∧ Grow ty s ty' s') => h.elim fun ty' h => hq true ty' s' h.1 h.2) _ (put_more (n := n + 1) (kn := s.next + 1 + 11 + 1) (vn := s.next + 1 + 11 + 1 + 1 + 12) (xs := xs.take i.toNat ++ (k :: xs.drop i.toNat)) (rs := rs.take i.toNat ++ (r :: rs.drop i.toNat)) hI (by omega) (by omega) (by omega) (by omega) ?_ ?_ ?_ ?_
          (fun x hx => ?_) ?_ ?_ ?_ ?_)
        · simp only; omega
        · simp only; omega
        · simp; omega
        · simp; omega
        · rcases List.mem_append.1 hx with hx | hx
          · exact h9 x (List.mem_of_mem_take hx)
          · rcases List.mem_cons.1 hx with rfl | hx
            · exact ⟨ha, hb⟩
            · exact h9 x (List.mem_of_mem_drop hx)
        · simp (disch := omega) [get_del]
        · rw [← crs_ins]
          simp (disch := omega) [get_del]
        · simp (disch := omega) [get_del]
        · intro m hm h14 hk1 hk2
          have e1 : m ≠ ka := fun e => hk1 n (by rw [e, tk])
          have e2 : m ≠ va := fun e => hk2 n (by rw [e, tv])
          simp (disch := omega) [get_del]

end Go.Sh
