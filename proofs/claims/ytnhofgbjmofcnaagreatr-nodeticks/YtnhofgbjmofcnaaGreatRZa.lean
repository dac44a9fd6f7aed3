/-
  NodeTicks: known is as it is told: by running it. NodeTicks: heap.Next is as it is told: the walk.
-/
import Derived.Test.YtnhofgbjmofcnaaGreatRYa
import Derived.Laws.IdiomRangeMap
import Derived.LoopTactic
import Derived.Tactics
import Derived.Tactics2
import Derived.StillTactics
import Derived.WalkKit

namespace Go.Sh
open Go
open Go.Proofs

def prim0 : PrimF := fun _ => none

theorem good0 [Sg : Sig] : (tE prim0).Good Tryz.prog := seat_good prim0 _ _ (fun f p h => by cases h) (fun _ _ _ _ h => by cases h) (fun _ h => by cases h)

def kKnown : Kept := ⟨[.bool true], [], 557⟩

theorem known_run : keptOk (fun _ _ => false) kKnown (calls (tE prim0) 2000 6 [] ⟨.leaf, 0⟩) = true := by kernel_rfl

theorem known_prim [Sg : Sig] : PrimOk Tryz.prog 6 knP := by
  have h : PrimOk Tryz.prog 6 (kKnown.prim []) := fresh_prim (argsN := []) (calls_ok good0 2000) (fun _ _ h => by cases h) known_run rfl rfl rfl Tryz.call6
  intro args s v s' hp
  unfold knP at hp
  split at hp
  · cases hp
    exact h [] s _ _ rfl
  · cases hp

end Go.Sh

namespace Go.Sh
open Go
open Go.Proofs

/-- An entry's number. -/
def keyN (e : MapEntry) : Int := match e.key with
  | .int .u64 k => k
  | _ => 0

/-- What has been found among those that were handed out. -/
structure FoundN (es : List MapEntry) (x : Int) (seen : Array Nat) (a : Int) (b : Bool) : Prop where
  no : b = false → a = 0 ∧ ∀ e ∈ es, seen.contains e.born = true → ¬ x < keyN e
  yes : b = true → x < a ∧ (∃ e ∈ es, keyN e = a) ∧ ∀ e ∈ es, seen.contains e.born = true → x < keyN e → a ≤ keyN e

theorem born_inj : ∀ {l : List MapEntry}, (l.map (·.born)).Nodup → ∀ {e f : MapEntry}, e ∈ l → f ∈ l → e.born = f.born → e = f
  | x :: l, h, e, f, he, hf, hb => by
    have hn : x.born ∉ l.map (·.born) ∧ (l.map (·.born)).Nodup := List.nodup_cons.1 h
    rcases List.mem_cons.1 he with rfl | he
    · rcases List.mem_cons.1 hf with rfl | hf
      · rfl
      · exact absurd (List.mem_map.2 ⟨f, hf, hb.symm⟩) hn.1
    · rcases List.mem_cons.1 hf with h2 | hf
      · exact absurd (List.mem_map.2 ⟨e, he, by rw [hb, h2]⟩) hn.1
      · exact born_inj hn.2 he hf hb

theorem FoundN.skip {es : List MapEntry} {x : Int} {seen : Array Nat} {a : Int} {b : Bool} (h : FoundN es x seen a b) (hnd : (es.map (·.born)).Nodup) {e : MapEntry} (he : e ∈ es) (hs : ¬ (x < keyN e ∧ (b = false ∨ keyN e < a))) : FoundN es x (seen.push e.born) a b := by
  have key : ∀ f ∈ es, (seen.push e.born).contains f.born = true → seen.contains f.born = true ∨ f = e := by
    intro f hf hc
    rw [contains_push, Bool.or_eq_true] at hc
    rcases hc with hc | hc
    · exact .inl hc
    · exact .inr (born_inj hnd hf he (by simpa using hc))
  refine ⟨fun hb => ⟨(h.no hb).1, fun f hf hc => ?_⟩, fun hb => ⟨(h.yes hb).1, (h.yes hb).2.1, fun f hf hc hx => ?_⟩⟩
  · rcases key f hf hc with hc | rfl
    · exact (h.no hb).2 f hf hc
    · exact fun hx => hs ⟨hx, .inl hb⟩
  · rcases key f hf hc with hc | rfl
    · exact (h.yes hb).2.2 f hf hc hx
    · exact Int.not_lt.1 fun hlt => hs ⟨hx, .inr hlt⟩

theorem FoundN.take {es : List MapEntry} {x : Int} {seen : Array Nat} {a : Int} {b : Bool} (h : FoundN es x seen a b) (hnd : (es.map (·.born)).Nodup) {e : MapEntry} (he : e ∈ es) (hx : x < keyN e) (hs : b = false ∨ keyN e < a) : FoundN es x (seen.push e.born) (keyN e) true := by
  have key : ∀ f ∈ es, (seen.push e.born).contains f.born = true → seen.contains f.born = true ∨ f = e := by
    intro f hf hc
    rw [contains_push, Bool.or_eq_true] at hc
    rcases hc with hc | hc
    · exact .inl hc
    · exact .inr (born_inj hnd hf he (by simpa using hc))
  refine ⟨fun hb => (by cases hb), fun _ => ⟨hx, ⟨e, he, rfl⟩, fun f hf hc hxf => ?_⟩⟩
  rcases key f hf hc with hc | rfl
  · cases b with
    | false => exact absurd hxf ((h.no rfl).2 f hf hc)
    | true =>
      have := (h.yes rfl).2.2 f hf hc hxf
      rcases hs with hs | hs
      · cases hs
      · omega
  · exact Int.le_refl _

set_option maxRecDepth 1000000 in
theorem next_walk (hb ho bm : Nat) (es : Array MapEntry) (clock : Nat) (x : Int) (w : World) (hp : w.cell? ⟨hb, ho + 4, none⟩ = some (.map (some bm))) (hm : w.heap[bm]? = some (.map es clock)) (hold : ∀ e ∈ es.toList, e.born < clock) (hnd : (es.toList.map (·.born)).Nodup)
    (hk : ∀ e ∈ es.toList, ∃ k, e.key = .int .u64 k) :
    Calls Tryz.prog 40 #[.pointer (some ⟨hb, ho, none⟩), .int .u64 x] w fun e w' => ∃ (a : Int) (b : Bool) (seen : Array Nat), e = .returned (.tuple #[.int .u64 a, .bool b]) ∧ FoundN es.toList x seen a b ∧ (leftOf es seen).size = 0 ∧
      ∃ (w1 : World), w1.Alike w ∧ w' = w1.alloc (.mapIter (some bm) clock seen clock) := by
  have hrg := run_range_map (P := Tryz.prog) w 192 22 262 bm es clock Tryz.underlying192 hm
  go_enter Tryz.func40, Tryz.ntmps40
  go_wp2
  go_loopw [6, 7] (fun s t w' => ∃ (w1 : World) (seen : Array Nat) (a : Int) (b : Bool), w1.Alike w ∧ w' = w1.alloc (.mapIter (some bm) clock seen clock) ∧ s = .int .u64 a ∧ t = .bool b ∧ FoundN es.toList x seen a b) (fun _ _ w' => (leftOf es (w'.iterSeen w.heap.size)).size)
  case atStart => exact ⟨w, #[], 0, false, ⟨rfl, rfl, rfl⟩, rfl, rfl, rfl, ⟨fun _ => ⟨rfl, fun e _ h => by simp at h⟩, fun h => by cases h⟩⟩
  case round =>
    obtain ⟨w1, seen, a, b, hal, rfl, rfl, rfl, hF⟩ := hrel
    have hsz : w1.heap.size = w.heap.size := by rw [hal.1]
    have hb1 : w1.heap[bm]? = some (.map es clock) := by rw [hal.1]; exact hm
    have law := run_next_map (P := Tryz.prog) w1 0 bm clock clock seen es clock hb1 hold (Nat.le_refl _)
    rw [hsz] at law
    rcases law with ⟨h0, hrun⟩ | ⟨e, he, w2, hal2, hrun⟩
    · have hnx : ∀ ty, (Instr.next (.pointer (some ⟨w.heap.size, 0, none⟩)) false ty).run Tryz.prog (w1.alloc (.mapIter (some bm) clock seen clock)) = _ := fun _ => hrun
      go_wp2
      go_ret2
      exact ⟨a, b, seen, rfl, hF, h0, w1, hal, rfl⟩
    · obtain ⟨k, hkey⟩ := hk e (mem_left he).1
      have hkn : keyN e = k := by unfold keyN; rw [hkey]
      rw [hkey] at hrun
      have hnx : ∀ ty, (Instr.next (.pointer (some ⟨w.heap.size, 0, none⟩)) false ty).run Tryz.prog (w1.alloc (.mapIter (some bm) clock seen clock)) = _ := fun _ => hrun
      have hsz2 : w2.heap.size = w.heap.size := by rw [hal2.1, hal.1]
      have hb2 : w2.heap[bm]? = some (.map es clock) := by rw [hal2.1]; exact hb1
      have hen := run_entry_map (P := Tryz.prog) w2 bm clock seen es clock e hb2 (mem_left he).1 hnd
      rw [hsz2, hkey] at hen
      have hme : (leftOf es ((w2.alloc (.mapIter (some bm) clock (seen.push e.born) clock)).iterSeen w.heap.size)).size < (leftOf es ((w1.alloc (.mapIter (some bm) clock seen clock)).iterSeen w.heap.size)).size := by
        rw [← hsz2, World.iterSeen_alloc, hsz2, ← hsz, World.iterSeen_alloc]
        exact left_shrinks es seen e he
      have hal3 : w2.Alike w := ⟨hal2.1.trans hal.1, hal2.2.1.trans hal.2.1, hal2.2.2.trans hal.2.2⟩
      by_cases h1 : x < k
      · cases b with
        | false =>
          go_wp2
          refine ⟨⟨w2, seen.push e.born, k, true, hal3, rfl, rfl, rfl, ?_⟩, hme⟩
          have := hF.take hnd (mem_left he).1 (by rw [hkn]; exact h1) (.inl rfl)
          rwa [hkn] at this
        | true =>
          by_cases h2 : k < a
          · go_wp2
            refine ⟨⟨w2, seen.push e.born, k, true, hal3, rfl, rfl, rfl, ?_⟩, hme⟩
            have := hF.take hnd (mem_left he).1 (by rw [hkn]; exact h1) (.inr (by rw [hkn]; exact h2))
            rwa [hkn] at this
          · go_wp2
            refine ⟨⟨w2, seen.push e.born, a, true, hal3, rfl, rfl, rfl, ?_⟩, hme⟩
            exact hF.skip hnd (mem_left he).1 (by rw [hkn]; rintro ⟨_, h | h⟩; cases h; exact h2 h)
      · go_wp2
        refine ⟨⟨w2, seen.push e.born, a, b, hal3, rfl, rfl, rfl, ?_⟩, hme⟩
        exact hF.skip hnd (mem_left he).1 (by rw [hkn]; exact fun h => h1 h.1)

/-! ### the least number above -/
theorem foldl_least : ∀ (l : List Int) (a : Int), (l.foldl min a = a ∨ l.foldl min a ∈ l) ∧ l.foldl min a ≤ a ∧ ∀ y ∈ l, l.foldl min a ≤ y
  | [], a => ⟨.inl rfl, Int.le_refl _, fun y h => by cases h⟩
  | b :: l, a => by
    obtain ⟨h1, h2, h3⟩ := foldl_least l (min a b)
    simp only [List.foldl_cons]
    refine ⟨?_, by omega, fun y hy => ?_⟩
    · rcases h1 with h1 | h1
      · rcases Int.le_total a b with h | h
        · left; omega
        · right; have : min a b = b := by omega
          rw [this] at h1 ⊢; simp [h1]
      · right; simp [h1]
    · rcases List.mem_cons.1 hy with rfl | hy
      · omega
      · exact h3 y hy

theorem mem_keysOf {es : List MapEntry} {k : Int} : k ∈ keysOf es ↔ ∃ e ∈ es, e.key = .int .u64 k := by
  unfold keysOf
  rw [List.mem_filterMap]
  constructor
  · rintro ⟨e, he, h⟩
    refine ⟨e, he, ?_⟩
    split at h
    · rename_i k' hk; cases h; exact hk
    · cases h
  · rintro ⟨e, he, h⟩
    exact ⟨e, he, by rw [h]⟩

theorem nextK_of {es : List MapEntry} {x a : Int} {b : Bool} (hno : b = false → a = 0 ∧ ∀ k ∈ keysOf es, ¬ x < k) (hyes : b = true → x < a ∧ a ∈ keysOf es ∧ ∀ k ∈ keysOf es, x < k → a ≤ k) : (nextK es x).getD 0 = a ∧ (nextK es x).isSome = b := by
  unfold nextK
  cases hl : (keysOf es).filter (fun k => decide (x < k)) with
  | nil =>
    have hn : ∀ k ∈ keysOf es, ¬ x < k := by
      intro k hk hx
      have : k ∈ (keysOf es).filter (fun k => decide (x < k)) := List.mem_filter.2 ⟨hk, by simpa using hx⟩
      rw [hl] at this; cases this
    cases b with
    | false => exact ⟨(hno rfl).1.symm, rfl⟩
    | true => obtain ⟨h1, h2, _⟩ := hyes rfl; exact absurd h1 (hn a h2)
  | cons c l =>
    have hm : ∀ k, k ∈ c :: l ↔ k ∈ keysOf es ∧ x < k := by
      intro k
      rw [← hl, List.mem_filter]; simp
    have hc := (hm c).1 (by simp)
    cases b with
    | false => exact absurd hc.2 ((hno rfl).2 c hc.1)
    | true =>
      obtain ⟨h1, h2, h3⟩ := hyes rfl
      obtain ⟨g1, g2, g3⟩ := foldl_least l c
      have ha : a ∈ c :: l := (hm a).2 ⟨h2, h1⟩
      have hmem : l.foldl min c ∈ c :: l := by
        rcases g1 with g1 | g1
        · rw [g1]; simp
        · simp [g1]
      have hle := h3 _ ((hm _).1 hmem).1 ((hm _).1 hmem).2
      have hge : l.foldl min c ≤ a := by
        rcases List.mem_cons.1 ha with rfl | ha
        · exact g2
        · exact g3 a ha
      exact ⟨by show l.foldl min c = a; omega, rfl⟩

section
variable [Sg : Sig]

theorem ER.born {ι : Inj} {es fs : List MapEntry} (h : ER ι es fs) : fs.map (·.born) = es.map (·.born) := by
  induction h with
  | nil => rfl
  | cons e f es fs hk hv hb _ ih => simp [hb, ih]

theorem ER.key_of {ι : Inj} {es fs : List MapEntry} (h : ER ι es fs) {k : Int} : (∃ f ∈ fs, f.key = .int .u64 k) ∧ (∀ e ∈ es, u64Key e = true) ↔ (∃ e ∈ es, e.key = .int .u64 k) ∧ ∀ e ∈ es, u64Key e = true := by
  induction h with
  | nil => simp
  | cons e f es fs hk hv hb _ ih =>
    constructor
    · rintro ⟨⟨g, hg, hgk⟩, ha⟩
      refine ⟨?_, ha⟩
      have ha' := fun e he => ha e (List.mem_cons_of_mem _ he)
      rcases List.mem_cons.1 hg with rfl | hg
      · have hu := ha e (by simp)
        unfold u64Key at hu
        split at hu
        · rename_i k' he
          rw [he] at hk
          rw [hgk] at hk
          cases hk
          exact ⟨e, by simp, he⟩
        · cases hu
      · obtain ⟨e', he', h'⟩ := (ih.1 ⟨⟨g, hg, hgk⟩, ha'⟩).1
        exact ⟨e', by simp [he'], h'⟩
    · rintro ⟨⟨g, hg, hgk⟩, ha⟩
      refine ⟨?_, ha⟩
      have ha' := fun e he => ha e (List.mem_cons_of_mem _ he)
      rcases List.mem_cons.1 hg with rfl | hg
      · rw [hgk] at hk
        generalize hy : f.key = y at hk
        cases hk
        exact ⟨f, by simp, hy⟩
      · obtain ⟨e', he', h'⟩ := (ih.2 ⟨⟨g, hg, hgk⟩, ha'⟩).1
        exact ⟨e', by simp [he'], h'⟩

theorem ER.u64 {ι : Inj} {es fs : List MapEntry} (h : ER ι es fs) (ha : ∀ e ∈ es, u64Key e = true) : ∀ f ∈ fs, ∃ k, f.key = .int .u64 k := by
  induction h with
  | nil => intro f hf; cases hf
  | cons e f es fs hk hv hb _ ih =>
    intro g hg
    rcases List.mem_cons.1 hg with rfl | hg
    · have hu := ha e (by simp)
      unfold u64Key at hu
      split at hu
      · rename_i k' he
        rw [he] at hk
        generalize hy : g.key = y at hk
        cases hk
        exact ⟨k', rfl⟩
      · cases hu
    · exact ih (fun e he => ha e (List.mem_cons_of_mem _ he)) g hg

/-- Blocks more that nobody names, and draws. -/
theorem Post.extra {ι : Inj} {s : St} {w w1 : World} (h : SR ι s w) (hl : w1.Alike w) {o : Obj} (hz : ∀ off, fzObj (some o) off = false) : Post ι s w ι s (w1.alloc o) := by
  have hh : (w1.alloc o).heap = w.heap.push o := by
    show w1.heap.push o = _
    rw [hl.1]
  have hget : ∀ b, b < w.heap.size → (w1.alloc o).heap[b]? = w.heap[b]? := fun b hb => by rw [hh, Array.getElem?_push, if_neg (by omega)]
  refine ⟨Ext.refl ι, ⟨fun n p hn => ?_, h.inj, h.fresh⟩, by rw [hh]; simp, fun b hb _ => hget b hb, fun n p ni hn hp hni => .inr ⟨n, p, ni, hn, hp, hni, rfl⟩, ⟨hl.2.1, hl.2.2, fun a => ?_⟩, Nat.le_refl _, fun n p hn => .inl ⟨p, hn⟩, fun _ _ h => .inl h, fun n p ni hn hni => .inr ⟨n, p, ni, hn, hni, rfl⟩⟩
  · obtain ⟨ni, h1, h2⟩ := h.obj n p hn
    exact ⟨ni, h1, h2.mono (Ext.refl ι) (hget _ h2.blk)⟩
  · rw [frozen_fz, frozen_fz]
    by_cases hb : a.block < w.heap.size
    · rw [hget _ hb]
    · rw [hh, Array.getElem?_push]
      by_cases he : a.block = w.heap.size
      · rw [if_pos he, hz, he]; simp [fzObj]
      · rw [if_neg he]

theorem next_prim : PrimOk Tryz.prog 40 nxtP := by
  intro args s v s' h ι w ws hs hl
  unfold nxtP at h
  split at h
  case h_2 => cases h
  case h_1 n x =>
  cases hn : s.heap.get n with
  | none => rw [hn] at h; cases h
  | some ob =>
    rw [hn] at h
    cases ob <;> (try simp only at h) <;> (try (cases h; done))
    rename_i row esz ro
    cases esz <;> cases ro <;> (try simp only at h) <;> (try (cases h; done))
    split at h
    case h_2 => cases h
    case h_1 m hrow =>
    cases hm : s.heap.get m with
    | none => rw [hm] at h; cases h
    | some om =>
      rw [hm] at h
      cases om <;> (try simp only at h) <;> (try (cases h; done))
      rename_i es clock
      cases hall : es.all u64Key with
      | false => rw [hall] at h; cases h
      | true =>
        rw [hall] at h
        simp only [cond_true] at h
        cases h
        cases hl with
        | cons _ y0 _ ys0 hy0 hl =>
        cases hl with
        | cons _ y1 _ ys1 hy1 hl =>
        cases hl
        cases hy1
        cases hy0 with
        | ptr _ _ ni hni =>
        obtain ⟨v', hv', hc⟩ := hs.one hn hni hrow
        obtain ⟨mi, hmi, rfl⟩ := hv'.map_some
        obtain ⟨es', hw, hes⟩ := hs.map hm hmi
        have hst := hs.stamped hm
        have hall' : ∀ e ∈ es, u64Key e = true := List.all_eq_true.1 hall
        have hb := hes.born
        have hold : ∀ e ∈ es'.toList, e.born < clock := by
          intro e he
          have : e.born ∈ es'.toList.map (·.born) := List.mem_map.2 ⟨e, he, rfl⟩
          rw [hb] at this
          obtain ⟨f, hf, hfe⟩ := List.mem_map.1 this
          rw [← hfe]; exact hst.lt f hf
        have hnd : (es'.toList.map (·.born)).Nodup := by rw [hb]; exact hst.nodup
        have hk := hes.u64 hall'
        refine (next_walk ni.blk (ni.d + 0) mi.blk es' clock x w hc hw hold hnd hk).mono ?_
        rintro e w' ⟨a, b, seen, rfl, hF, h0, w1, hlk, rfl⟩
        have hseen : ∀ f ∈ es'.toList, seen.contains f.born = true := by
          intro f hf
          cases hc : seen.contains f.born with
          | true => rfl
          | false =>
            have : f ∈ (leftOf es' seen) := Array.mem_filter.2 ⟨by simpa using hf, by rw [hc]; rfl⟩
            have he : leftOf es' seen = #[] := Array.eq_empty_of_size_eq_zero h0
            rw [he] at this
            simp at this
        have hkeys : ∀ k, k ∈ keysOf es ↔ ∃ f ∈ es'.toList, keyN f = k := by
          intro k
          rw [mem_keysOf]
          constructor
          · intro h
            obtain ⟨⟨f, hf, hfk⟩, _⟩ := hes.key_of.2 ⟨h, hall'⟩
            exact ⟨f, hf, by unfold keyN; rw [hfk]⟩
          · rintro ⟨f, hf, hfk⟩
            obtain ⟨k', hk'⟩ := hk f hf
            have : k' = k := by unfold keyN at hfk; rw [hk'] at hfk; exact hfk
            subst this
            exact (hes.key_of.1 ⟨⟨f, hf, hk'⟩, hall'⟩).1
        obtain ⟨g1, g2⟩ := nextK_of (es := es) (x := x) (a := a) (b := b)
          (fun hb => ⟨(hF.no hb).1, fun k hk => by obtain ⟨f, hf, rfl⟩ := (hkeys k).1 hk; exact (hF.no hb).2 f hf (hseen f hf)⟩)
          (fun hb => ⟨(hF.yes hb).1, (hkeys a).2 (hF.yes hb).2.1, fun k hk hx => by obtain ⟨f, hf, rfl⟩ := (hkeys k).1 hk; exact (hF.yes hb).2.2 f hf (hseen f hf) hx⟩)
        rw [g1, g2]
        exact ⟨ι, _, rfl, .tuple _ _ (.cons _ _ _ _ (.int _ _) (.cons _ _ _ _ (.bool _) .nil)), Post.extra hs hlk (fun _ => rfl)⟩

end

#print axioms next_prim

end Go.Sh
