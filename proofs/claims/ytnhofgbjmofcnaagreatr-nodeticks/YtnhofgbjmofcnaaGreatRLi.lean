/-
  Small steps of the shadow interpreter: how they are gone through. (No program in it.) Small steps of the shadow interpreter: loops. (No program in it.) What slices.Insert does, told in the shadow. (No program in it.)
-/
import Derived.Test.YtnhofgbjmofcnaaGreatRLh

namespace Go.Sh
open Go

variable {E : Env} {ρ ρ' : Rho} {s s' : St}

/-! ### what comes behind, by name -/
def mopK (E : Env) (base : Nat) (l : List MOp) (Q : Rho → St → Prop) (ρ : Rho) (d : Option Nat) (v : Value) (s : St) : Prop := mops E base l (updR ρ d v) s Q
def mwK (E : Env) (y : MC) (Q : Post3) (ρ : Rho) (s : St) : Prop := MW E y ρ s Q
def retK (Q : Value → St → Prop) (s : St) (v : Value) : Prop := Q v s
theorem mopK_eq {base : Nat} {l : List MOp} {Q : Rho → St → Prop} {d : Option Nat} {v : Value} : mopK E base l Q ρ d v s = mops E base l (updR ρ d v) s Q := (rfl)
theorem mwK_eq {y : MC} {Q : Post3} : mwK E y Q ρ s = MW E y ρ s Q := (rfl)
theorem retK_eq {Q : Value → St → Prop} {v : Value} : retK Q s v = Q v s := (rfl)

/-! ### the code -/
theorem MW_skip {Q : Post3} : MW E .skip ρ s Q = Q .normal ρ s := (rfl)
theorem MW_seq {x y : MC} {Q : Post3} : MW E (.seq x y) ρ s Q = MW E x ρ s (thenM (mwK E y Q) Q) := (rfl)
def condM (E : Env) (v : Value) (x y : MC) (ρ : Rho) (s : St) (Q : Post3) : Prop := condK v (MW E x ρ s Q) (MW E y ρ s Q)
theorem MW_cond {c : MV} {x y : MC} {Q : Post3} : MW E (.cond c x y) ρ s Q = condM E (c.ev ρ) x y ρ s Q := (rfl)
theorem condM_true {x y : MC} {Q : Post3} : condM E (.bool true) x y ρ s Q = MW E x ρ s Q := by simp [condM, condK]
theorem condM_false {x y : MC} {Q : Post3} : condM E (.bool false) x y ρ s Q = MW E y ρ s Q := by simp [condM, condK]
theorem condM_split {b : Bool} {x y : MC} {Q : Post3} : condM E (.bool b) x y ρ s Q ↔ (b = true → MW E x ρ s Q) ∧ (b = false → MW E y ρ s Q) := (.rfl)
theorem MW_block {id : Nat} {c : MC} {Q : Post3} : MW E (.block id c) ρ s Q = MW E c ρ s (blockM id Q) := (rfl)
theorem MW_loop {c : MC} {Q : Post3} : MW E (.loop c) ρ s Q = loopM (MW E c) ρ s Q := (rfl)
theorem MW_exit {id : Nat} {Q : Post3} : MW E (.exit id) ρ s Q = Q (.exit id) ρ s := (rfl)
theorem MW_ret {Q : Post3} : MW E .ret ρ s Q = Q .ret ρ s := (rfl)
theorem MW_ops {l : List MOp} {Q : Post3} : MW E (.ops l) ρ s Q = mops E 0 l ρ s (Q .normal) := (rfl)
theorem MW_draw {n : Nat} {l : List MOp} {Q : Post3} : MW E (.draw n l) ρ s Q = mops E s.next l ρ { s with next := s.next + n } (Q .normal) := (rfl)
theorem thenM_normal {k : Rho → St → Prop} {Q : Post3} : thenM k Q .normal ρ s = k ρ s := (rfl)
theorem thenM_exit {k : Rho → St → Prop} {Q : Post3} {i : Nat} : thenM k Q (.exit i) ρ s = Q (.exit i) ρ s := (rfl)
theorem thenM_ret {k : Rho → St → Prop} {Q : Post3} : thenM k Q .ret ρ s = Q .ret ρ s := (rfl)
theorem blockM_normal {id : Nat} {Q : Post3} : blockM id Q .normal ρ s = Q .normal ρ s := (rfl)
theorem blockM_ret {id : Nat} {Q : Post3} : blockM id Q .ret ρ s = Q .ret ρ s := (rfl)
theorem blockM_exit {id : Nat} {Q : Post3} : blockM id Q (.exit id) ρ s = Q .normal ρ s := by unfold blockM; simp
theorem blockM_other {id j : Nat} {Q : Post3} (h : j ≠ id) : blockM id Q (.exit j) ρ s = Q (.exit j) ρ s := by unfold blockM; simp [h]
theorem retM_ret {rs : List MRes} {Q : Value → St → Prop} : retM rs Q .ret ρ s = resK (mres ρ s rs) (retK Q s) := (rfl)
theorem retM_normal {rs : List MRes} {Q : Value → St → Prop} : retM rs Q .normal ρ s = resK (mres ρ s rs) (retK Q s) := (rfl)
theorem resK_some {vs : List Value} {K : Value → Prop} : resK (some vs) K = K (oneOr vs) := (rfl)
theorem oneOr_one {v : Value} : oneOr [v] = v := (rfl)
theorem oneOr_two {v u : Value} {vs : List Value} : oneOr (v :: u :: vs) = .tuple (v :: u :: vs).toArray := (rfl)
theorem oneOr_nil : oneOr [] = .tuple #[] := (rfl)

theorem mops_nil {base : Nat} {Q : Rho → St → Prop} : mops E base [] ρ s Q = Q ρ s := (rfl)
theorem go_none {base : Nat} {d : Option Nat} {act : MAct} {nm : Option Nat} {l : List MOp} {Q : Rho → St → Prop} : mops E base (⟨d, act, none, nm⟩ :: l) ρ s Q = act.go E (nm.map (base + ·)) ρ s (mopK E base l Q ρ d) := (rfl)
/-- A step, if so. -/
def condA (E : Env) (v : Value) (w : Bool) (base : Nat) (act : MAct) (nm : Option Nat) (l : List MOp) (Q : Rho → St → Prop) (ρ : Rho) (d : Option Nat) (s : St) : Prop :=
  gdK v w (act.go E (nm.map (base + ·)) ρ s (mopK E base l Q ρ d)) (mops E base l (updR ρ d undef) s Q)
theorem go_some {base : Nat} {d : Option Nat} {act : MAct} {g : Nat} {w : Bool} {nm : Option Nat} {l : List MOp} {Q : Rho → St → Prop} : mops E base (⟨d, act, some (g, w), nm⟩ :: l) ρ s Q =
    condA E (ρ g) w base act nm l Q ρ d s := (rfl)
theorem condA_yes {base : Nat} {d : Option Nat} {act : MAct} {w : Bool} {nm : Option Nat} {l : List MOp} {Q : Rho → St → Prop} : condA E (.bool w) w base act nm l Q ρ d s = act.go E (nm.map (base + ·)) ρ s (mopK E base l Q ρ d) := by
  simp [condA, gdK, wantV]
theorem condA_tf {base : Nat} {d : Option Nat} {act : MAct} {nm : Option Nat} {l : List MOp} {Q : Rho → St → Prop} : condA E (.bool true) false base act nm l Q ρ d s = mops E base l (updR ρ d undef) s Q := by
  simp [condA, gdK, wantV]
theorem condA_ft {base : Nat} {d : Option Nat} {act : MAct} {nm : Option Nat} {l : List MOp} {Q : Rho → St → Prop} : condA E (.bool false) true base act nm l Q ρ d s = mops E base l (updR ρ d undef) s Q := by
  simp [condA, gdK, wantV]
theorem condA_undef {w : Bool} {base : Nat} {d : Option Nat} {act : MAct} {nm : Option Nat} {l : List MOp} {Q : Rho → St → Prop} : condA E undef w base act nm l Q ρ d s = mops E base l (updR ρ d undef) s Q := by
  simp [condA, gdK, wantV, undef]
theorem condA_split {b w : Bool} {base : Nat} {d : Option Nat} {act : MAct} {nm : Option Nat} {l : List MOp} {Q : Rho → St → Prop} : condA E (.bool b) w base act nm l Q ρ d s ↔
    (b = w → act.go E (nm.map (base + ·)) ρ s (mopK E base l Q ρ d)) ∧ (b = !w → mops E base l (updR ρ d undef) s Q) := by
  simp only [condA, gdK, wantV]
  cases b <;> cases w <;> simp
theorem act_i {nm : Option Nat} {m : MI} {K : Value → St → Prop} : MAct.go E nm ρ s K (.i m) = runK (m.run E ρ nm s) K := (rfl)
theorem act_call {nm : Option Nat} {f : MV} {args : List MV} {K : Value → St → Prop} : MAct.go E nm ρ s K (.call f args) = callV E (f.ev ρ) (args.map (·.ev ρ)) s K := (rfl)
theorem act_chk {nm : Option Nat} {m : MI} {d : Nat} {K : Value → St → Prop} : MAct.go E nm ρ s K (.chk m d) = chkK (m.run E ρ none s) (ρ d) (K undef s) := (rfl)
theorem runK_some {v : Value} {K : Value → St → Prop} : runK (some (v, s)) K = K v s := (rfl)
def consO (v : Value) (r : Option (List Value)) : Option (List Value) := match r with
  | some vs => some (v :: vs)
  | none => none
theorem consO_some {v : Value} {vs : List Value} : consO v (some vs) = some (v :: vs) := (rfl)
theorem mres_nil : mres ρ s [] = some [] := (rfl)
theorem mres_t {n : Nat} {l : List MRes} : mres ρ s (.t n :: l) = consO (ρ n) (mres ρ s l) := (rfl)
theorem condK_true {P Q : Prop} : condK (.bool true) P Q = P := by unfold condK; simp
theorem condK_false {P Q : Prop} : condK (.bool false) P Q = Q := by unfold condK; simp
theorem condK_split {b : Bool} {P Q : Prop} : condK (.bool b) P Q ↔ (b = true → P) ∧ (b = false → Q) := (.rfl)
theorem callV_fn {g : Nat} {as : List Value} {K : Value → St → Prop} : callV E (.func (.func g) #[] #[]) as s K = WC E g as s K := by unfold callV; simp
theorem callV_clo {g : Nat} {as : List Value} {u v : List Value} {K : Value → St → Prop} : callV E (.func (.func g) u.toArray v.toArray) as s K = WC E g (u ++ as ++ v) s K := (rfl)
theorem chkK_some {u v : Value} {P : Prop} : chkK (some (u, s)) v P ↔ sameV u v = true ∧ P := (.rfl)
theorem mapO_none {b : Nat} : Option.map (b + ·) none = none := (rfl)
theorem mapO_some {b i : Nat} : Option.map (b + ·) (some i) = some (b + i) := (rfl)

/-! ### values -/
theorem ev_t {n : Nat} : (MV.t n).ev ρ = ρ n := (rfl)
theorem ev_c {v : Value} : (MV.c v).ev ρ = v := (rfl)
theorem ev_f {g : Nat} : (MV.f g).ev ρ = .func (.func g) #[] #[] := (rfl)
theorem updR_none {v : Value} : updR ρ none v = ρ := (rfl)
theorem updR_some {d t : Nat} {v : Value} : updR ρ (some d) v t = if t = d then v else ρ t := (rfl)
theorem rho0_zero {v : Value} {l : List Value} : rho0 (v :: l) 0 = v := (rfl)
theorem rho0_succ {v : Value} {l : List Value} {n : Nat} : rho0 (v :: l) (n + 1) = rho0 l n := (rfl)

/-! ### steps -/
theorem run_val {nm : Option Nat} {x : MV} : MI.run E ρ nm s (.val x) = some (x.ev ρ, s) := (rfl)
def pickV (c x y : Value) (s : St) : Option (Value × St) := match c with
  | .bool t => some (cond t x y, s)
  | _ => none
theorem run_pick {nm : Option Nat} {c x y : MV} : MI.run E ρ nm s (.pick c x y) = pickV (c.ev ρ) (x.ev ρ) (y.ev ρ) s := (rfl)
theorem pickV_true {x y : Value} : pickV (.bool true) x y s = some (x, s) := (rfl)
theorem pickV_false {x y : Value} : pickV (.bool false) x y s = some (y, s) := (rfl)
def nilckV (x : Value) (s : St) : Option (Value × St) := match x with
  | .pointer (some a) => some (.pointer (some a), s)
  | _ => none
theorem run_nilck {nm : Option Nat} {x : MV} : MI.run E ρ nm s (.nilck x) = nilckV (x.ev ρ) s := (rfl)
theorem nilckV_some {a : Addr} : nilckV (.pointer (some a)) s = some (.pointer (some a), s) := (rfl)
def notV (x : Value) (s : St) : Option (Value × St) := match x with
  | .bool b => some (.bool (!b), s)
  | _ => none
theorem run_not {nm : Option Nat} {x : MV} : MI.run E ρ nm s (.not x) = notV (x.ev ρ) s := (rfl)
theorem notV_bool {b : Bool} : notV (.bool b) s = some (.bool (!b), s) := (rfl)
def okV (v : Option Value) (s : St) : Option (Value × St) := match v with
  | some v => some (v, s)
  | none => none
theorem okV_some {v : Value} : okV (some v) s = some (v, s) := (rfl)
theorem run_bin {nm : Option Nat} {op : BinOp} {x y : MV} : MI.run E ρ nm s (.bin op x y) = okV (binV op (x.ev ρ) (y.ev ρ)) s := (rfl)
def leaV (x : Value) (off : Nat) (s : St) : Option (Value × St) := match x with
  | .pointer (some ⟨b, o, none⟩) => some (.pointer (some ⟨b, o + off, none⟩), s)
  | _ => none
theorem run_lea {nm : Option Nat} {x : MV} {off : Nat} : MI.run E ρ nm s (.lea x off) = leaV (x.ev ρ) off s := (rfl)
theorem leaV_some {b o off : Nat} : leaV (.pointer (some ⟨b, o, none⟩)) off s = some (.pointer (some ⟨b, o + off, none⟩), s) := (rfl)
def fldV (x : Value) (off : Nat) (sz : Option Nat) (s : St) : Option (Value × St) := match x with
  | .agg cs => okV (cut cs.toList off sz) s
  | _ => none
theorem run_fld {nm : Option Nat} {x : MV} {off : Nat} {sz : Option Nat} : MI.run E ρ nm s (.fld x off sz) = fldV (x.ev ρ) off sz s := (rfl)
theorem fldV_agg {cs : List Value} {off : Nat} {sz : Option Nat} : fldV (.agg cs.toArray) off sz s = okV (cut cs off sz) s := (rfl)
def idxV (x i : Value) (sz : Nat) (s : St) : Option (Value × St) := match x, i with
  | .slice (some ⟨b, o, none⟩) len _, .int _ n => if 0 ≤ n ∧ n < len then some (.pointer (some ⟨b, o + n.toNat * sz, none⟩), s) else none
  | _, _ => none
theorem run_idxA {nm : Option Nat} {x i : MV} {sz : Nat} : MI.run E ρ nm s (.idxA x i sz) = idxV (x.ev ρ) (i.ev ρ) sz s := (rfl)
theorem idxV_some {b o len cap : Nat} {k : IntKind} {n : Int} {sz : Nat} (h : 0 ≤ n ∧ n < len) : idxV (.slice (some ⟨b, o, none⟩) len cap) (.int k n) sz s = some (.pointer (some ⟨b, o + n.toNat * sz, none⟩), s) := if_pos h
/-- The cells of a row. -/
def rowOf (s : St) (n : Nat) : Option (List Value) := match s.heap.get n with
  | some (.cells cs _ _) => some cs
  | _ => none
def cutO (cs : Option (List Value)) (off : Nat) (sz : Option Nat) : Option Value := match cs with
  | some cs => cut cs off sz
  | none => none
def ldV (x : Value) (sz : Option Nat) (s : St) : Option (Value × St) := match x with
  | .pointer (some ⟨b, o, none⟩) => okV (cutO (rowOf s b) o sz) s
  | _ => none
theorem run_ld {nm : Option Nat} {x : MV} {sz : Option Nat} : MI.run E ρ nm s (.ld x sz) = ldV (x.ev ρ) sz s := by
  simp only [MI.run]
  generalize x.ev ρ = v
  cases v with
  | pointer a => cases a with
    | none => rfl
    | some a =>
      obtain ⟨b, o, sp⟩ := a
      cases sp with
      | some _ => rfl
      | none =>
        simp only [ldV, cutO, rowOf]
        cases s.heap.get b with
        | none => rfl
        | some ob => cases ob <;> rfl
  | _ => rfl
theorem ldV_ptr {b o : Nat} {sz : Option Nat} : ldV (.pointer (some ⟨b, o, none⟩)) sz s = okV (cutO (rowOf s b) o sz) s := (rfl)
theorem cutO_some {cs : List Value} {off : Nat} {sz : Option Nat} : cutO (some cs) off sz = cut cs off sz := (rfl)
theorem rowOf_get {n : Nat} {cs : List Value} {e : Option Nat} {ro : Bool} (h : s.heap.get n = some (.cells cs e ro)) : rowOf s n = some cs := by unfold rowOf; rw [h]
/-- A row that may be written. -/
def wrRow (s : St) (n : Nat) : Option (List Value × Option Nat) := match s.heap.get n with
  | some (.cells cs esz false) => some (cs, esz)
  | _ => none
def stR (r : Option (List Value × Option Nat)) (b o : Nat) (v : Value) (sz : Nat) (s : St) : Option (Value × St) := match r with
  | some (cs, esz) => cond (sizeIs sz (cellsOf v) && allV isCell (cellsOf v))
    (match setN cs o (cellsOf v) with
     | some c => some (undef, { s with heap := s.heap.set b (.cells c esz false) })
     | none => none) none
  | none => none
def stV (x v : Value) (sz : Nat) (s : St) : Option (Value × St) := match x with
  | .pointer (some ⟨b, o, none⟩) => stR (wrRow s b) b o v sz s
  | _ => none
theorem run_st {nm : Option Nat} {x v : MV} {sz : Nat} : MI.run E ρ nm s (.st x v sz) = stV (x.ev ρ) (v.ev ρ) sz s := by
  simp only [MI.run]
  generalize x.ev ρ = u
  cases u with
  | pointer a => cases a with
    | none => rfl
    | some a =>
      obtain ⟨b, o, sp⟩ := a
      cases sp with
      | some _ => rfl
      | none =>
        simp only [stV, stR, wrRow]
        cases s.heap.get b with
        | none => rfl
        | some ob => cases ob with
          | cells cs e ro => cases ro <;> rfl
          | _ => rfl
  | _ => rfl
def unK (r : Option (Value × St)) (l : Option (List Value)) : Option (List Value) := match r with
  | some (v, _) => consO v l
  | none => none
theorem unK_some {v : Value} {l : Option (List Value)} : unK (some (v, s)) l = consO v l := (rfl)
theorem mres_cell {x : Nat} {sz : Option Nat} {l : List MRes} : mres ρ s (.cell x sz :: l) = unK (ldV (ρ x) sz s) (mres ρ s l) := by
  simp only [mres]
  generalize ρ x = v
  cases v with
  | pointer a => cases a with
    | none => rfl
    | some a =>
      obtain ⟨b, o, sp⟩ := a
      cases sp with
      | some _ => rfl
      | none =>
        simp only [ldV, cutO, rowOf]
        cases s.heap.get b with
        | none => rfl
        | some ob => cases ob with
          | cells cs e ro =>
            simp only
            cases cut cs o sz with
            | none => rfl
            | some v => cases mres ρ s l <;> rfl
          | _ => rfl
  | _ => rfl
theorem stV_ptr {b o : Nat} {v : Value} {sz : Nat} : stV (.pointer (some ⟨b, o, none⟩)) v sz s = stR (wrRow s b) b o v sz s := (rfl)
theorem wrRow_get {n : Nat} {cs : List Value} {e : Option Nat} (h : s.heap.get n = some (.cells cs e false)) : wrRow s n = some (cs, e) := by unfold wrRow; rw [h]
def setK (c : Option (List Value)) (b : Nat) (esz : Option Nat) (s : St) : Option (Value × St) := match c with
  | some c => some (undef, { s with heap := s.heap.set b (.cells c esz false) })
  | none => none
def stB (ok : Bool) (c : Option (List Value)) (b : Nat) (esz : Option Nat) (s : St) : Option (Value × St) := match ok with
  | true => setK c b esz s
  | false => none
theorem stB_true {c : Option (List Value)} {b : Nat} {esz : Option Nat} : stB true c b esz s = setK c b esz s := (rfl)
theorem stR_some {b o sz : Nat} {cs : List Value} {esz : Option Nat} {v : Value} : stR (some (cs, esz)) b o v sz s = stB (sizeIs sz (cellsOf v) && allV isCell (cellsOf v)) (setN cs o (cellsOf v)) b esz s := by
  simp only [stR, stB]
  cases (sizeIs sz (cellsOf v) && allV isCell (cellsOf v)) <;> rfl
theorem setK_some {c : List Value} {b : Nat} {esz : Option Nat} : setK (some c) b esz s = some (undef, { s with heap := s.heap.set b (.cells c esz false) }) := (rfl)
theorem run_alloc_none {zs : List Value} : MI.run E ρ none s (.alloc zs) = some (.pointer (some ⟨s.next, 0, none⟩), { heap := s.heap.set s.next (.cells zs none false), next := s.next + 1 }) := (rfl)
theorem run_alloc_some {n : Nat} {zs : List Value} : MI.run E ρ (some n) s (.alloc zs) = some (.pointer (some ⟨n, 0, none⟩), { s with heap := s.heap.set n (.cells zs none false) }) := (rfl)
theorem run_box_none {x : MV} : MI.run E ρ none s (.box x) = some (.pointer (some ⟨s.next, 0, none⟩), { heap := s.heap.set s.next (.cells (cellsOf (x.ev ρ)) none false), next := s.next + 1 }) := (rfl)
theorem run_box_some {n : Nat} {x : MV} : MI.run E ρ (some n) s (.box x) = some (.pointer (some ⟨n, 0, none⟩), { s with heap := s.heap.set n (.cells (cellsOf (x.ev ρ)) none false) }) := (rfl)
def extV (x : Value) (i : Nat) (s : St) : Option (Value × St) := match x with
  | .tuple vs => okV vs.toList[i]? s
  | _ => none
theorem run_ext {nm : Option Nat} {x : MV} {i : Nat} : MI.run E ρ nm s (.ext x i) = extV (x.ev ρ) i s := (rfl)
theorem extV_tuple {vs : List Value} {i : Nat} : extV (.tuple vs.toArray) i s = okV vs[i]? s := (rfl)
def lenV (x : Value) (s : St) : Option (Value × St) := match x with
  | .slice _ n _ => some (.int .i64 n, s)
  | _ => none
theorem run_lenS {nm : Option Nat} {x : MV} : MI.run E ρ nm s (.lenS x) = lenV (x.ev ρ) s := (rfl)
theorem lenV_slice {a : Option Addr} {n c : Nat} : lenV (.slice a n c) s = some (.int .i64 n, s) := (rfl)
def convV (k : IntKind) (x : Value) (s : St) : Option (Value × St) := match x with
  | .int _ n => some (.int k (k.wrap n), s)
  | _ => none
theorem run_conv {nm : Option Nat} {k : IntKind} {x : MV} : MI.run E ρ nm s (.conv k x) = convV k (x.ev ρ) s := (rfl)
theorem convV_int {k k' : IntKind} {n : Int} : convV k (.int k' n) s = some (.int k (k.wrap n), s) := (rfl)
theorem run_gen {nm : Option Nat} {op : Op} : MI.run E ρ nm s (.gen op) = opRun E (evO ρ) (gop op) nm s := (rfl)

def bldO (r : Option (List Value)) (s : St) : Option (Value × St) := match r with
  | some c => some (.agg c.toArray, s)
  | none => none
theorem run_bld {nm : Option Nat} {zs : List Value} {ps : List (Nat × Nat × MV)} : MI.run E ρ nm s (.bld zs ps) = bldO (bldV ρ zs ps) s := (rfl)
theorem bldO_some {c : List Value} : bldO (some c) s = some (.agg c.toArray, s) := (rfl)
theorem bldV_nil {zs : List Value} : bldV ρ zs [] = some zs := (rfl)
def bldS (ρ : Rho) (b : Bool) (c : Option (List Value)) (rest : List (Nat × Nat × MV)) : Option (List Value) := match b, c with
  | true, some c => bldV ρ c rest
  | _, _ => none
theorem bldV_cons {zs : List Value} {off sz : Nat} {m : MV} {rest : List (Nat × Nat × MV)} : bldV ρ zs ((off, sz, m) :: rest) = bldS ρ (sizeIs sz (cellsOf (m.ev ρ))) (setN zs off (cellsOf (m.ev ρ))) rest := by
  simp only [bldV, bldS]
  cases sizeIs sz (cellsOf (m.ev ρ)) with
  | false => rfl
  | true => cases setN zs off (cellsOf (m.ev ρ)) <;> rfl
theorem bldS_some {c : List Value} {rest : List (Nat × Nat × MV)} : bldS ρ true (some c) rest = bldV ρ c rest := (rfl)
theorem run_eqv {nm : Option Nat} {t : Nat} {neg : Bool} {x y : MV} : MI.run E ρ nm s (.eqv t neg x y) = eqvV (eqv0 E s t (x.ev ρ) (y.ev ρ)) neg s := (rfl)
theorem eqvV_eql {b : Bool} : eqvV (some b) false s = some (.bool b, s) := (rfl)
theorem eqvV_neq {b : Bool} : eqvV (some b) true s = some (.bool (!b), s) := (rfl)

/-! ### arithmetic -/
def shlI (k : IntKind) (a b : Int) : Int := k.wrap (a * 2 ^ (min b.toNat k.bits))
def shrI (k : IntKind) (a b : Int) : Int := a.fdiv (2 ^ (min b.toNat k.bits))
def andI (k : IntKind) (a b : Int) : Int := k.wrap (BitVec.ofInt k.bits a &&& BitVec.ofInt k.bits b).toNat
def orI (k : IntKind) (a b : Int) : Int := k.wrap (BitVec.ofInt k.bits a ||| BitVec.ofInt k.bits b).toNat
section
variable {k : IntKind} {a b : Int}
theorem bin_add : binV .add (.int k a) (.int k b) = some (.int k (k.wrap (a + b))) := by simp [binV, aint]
theorem bin_sub : binV .sub (.int k a) (.int k b) = some (.int k (k.wrap (a - b))) := by simp [binV, aint]
theorem bin_mul : binV .mul (.int k a) (.int k b) = some (.int k (k.wrap (a * b))) := by simp [binV, aint]
theorem bin_quo (h : b ≠ 0) : binV .quo (.int k a) (.int k b) = some (.int k (k.wrap (a.tdiv b))) := by simp [binV, aint, h]
theorem bin_rem (h : b ≠ 0) : binV .rem (.int k a) (.int k b) = some (.int k (a.tmod b)) := by simp [binV, aint, h]
theorem bin_eql : binV .eql (.int k a) (.int k b) = some (.bool (decide (a = b))) := by simp only [binV, aint, if_true]; congr
theorem bin_neq : binV .neq (.int k a) (.int k b) = some (.bool (!decide (a = b))) := by simp only [binV, aint, if_true]; congr
theorem bin_lss : binV .lss (.int k a) (.int k b) = some (.bool (decide (a < b))) := by simp [binV, aint]
theorem bin_leq : binV .leq (.int k a) (.int k b) = some (.bool (decide (a ≤ b))) := by simp [binV, aint]
theorem bin_gtr : binV .gtr (.int k a) (.int k b) = some (.bool (decide (b < a))) := by simp [binV, aint]
theorem bin_geq : binV .geq (.int k a) (.int k b) = some (.bool (decide (b ≤ a))) := by simp [binV, aint]
theorem bin_shl {k' : IntKind} (h : 0 ≤ b) : binV .shl (.int k a) (.int k' b) = some (.int k (shlI k a b)) := by simp [binV, ashift, Int.not_lt.2 h, shlI]
theorem bin_shr {k' : IntKind} (h : 0 ≤ b) : binV .shr (.int k a) (.int k' b) = some (.int k (shrI k a b)) := by simp [binV, ashift, Int.not_lt.2 h, shrI]
theorem bin_and : binV .and (.int k a) (.int k b) = some (.int k (andI k a b)) := by simp only [binV, aint, if_true, andI]
theorem bin_or : binV .or (.int k a) (.int k b) = some (.int k (orI k a b)) := by simp only [binV, aint, if_true, orI]
end

/-! ### cells -/
theorem cut_one {cs : List Value} {off : Nat} : cut cs off none = cs[off]? := by unfold cut; simp [List.head?_drop]
def aggO (r : Option (List Value)) : Option Value := match r with
  | some r => some (.agg r.toArray)
  | none => none
theorem cut_agg {cs : List Value} {off n : Nat} : cut cs off (some n) = aggO (takeN n (cs.drop off)) := (rfl)
theorem aggO_some {r : List Value} : aggO (some r) = some (.agg r.toArray) := (rfl)
theorem takeN_zero {l : List Value} : takeN 0 l = some [] := (rfl)
theorem takeN_of {n : Nat} {l : List Value} (h : n ≤ l.length) : takeN n l = some (l.take n) := by
  induction n generalizing l with
  | zero => rfl
  | succ n ih =>
    cases l with
    | nil => simp at h
    | cons v l => unfold takeN; rw [ih (by simpa using h)]; simp
theorem cellsOf_int {k : IntKind} {n : Int} : cellsOf (.int k n) = [.int k n] := (rfl)
theorem cellsOf_bool {b : Bool} : cellsOf (.bool b) = [.bool b] := (rfl)
theorem cellsOf_ptr {a : Option Addr} : cellsOf (.pointer a) = [.pointer a] := (rfl)
theorem cellsOf_slice {a : Option Addr} {l c : Nat} : cellsOf (.slice a l c) = [.slice a l c] := (rfl)
theorem cellsOf_map {a : Option Nat} : cellsOf (.map a) = [.map a] := (rfl)
theorem cellsOf_agg {cs : List Value} : cellsOf (.agg cs.toArray) = cs := (rfl)

theorem sizeIs_dec : ∀ {n : Nat} {l : List Value}, sizeIs n l = decide (l.length = n)
  | 0, [] => rfl
  | 0, _ :: _ => rfl
  | n + 1, [] => rfl
  | n + 1, _ :: l => by unfold sizeIs; rw [sizeIs_dec (n := n) (l := l)]; simp
theorem takeN_succ {n : Nat} {v : Value} {vs : List Value} : takeN (n + 1) (v :: vs) = consO v (takeN n vs) := (rfl)
theorem setN_zero_nil {cs : List Value} : setN cs 0 [] = some cs := by cases cs <;> rfl
theorem setN_zero_cons {c v : Value} {cs vs : List Value} : setN (c :: cs) 0 (v :: vs) = consO v (setN cs 0 vs) := (rfl)
theorem setN_succ {c : Value} {off : Nat} {cs vs : List Value} : setN (c :: cs) (off + 1) vs = consO c (setN cs off vs) := (rfl)
theorem allV_nil {p : Value → Bool} : allV p [] = true := (rfl)
theorem allV_cons {p : Value → Bool} {v : Value} {vs : List Value} : allV p (v :: vs) = (p v && allV p vs) := (rfl)
theorem isCell_int {k : IntKind} {n : Int} : isCell (.int k n) = true := (rfl)
theorem isCell_bool {b : Bool} : isCell (.bool b) = true := (rfl)
theorem isCell_ptr {a : Option Addr} : isCell (.pointer a) = true := (rfl)
theorem isCell_slice {a : Option Addr} {l c : Nat} : isCell (.slice a l c) = true := (rfl)
theorem isCell_map {a : Option Nat} : isCell (.map a) = true := (rfl)

/-! ### the heap -/
theorem get_same {α : Type} {t : Tr α} {n : Nat} {a : α} : (t.set n a).get n = some a := by rw [Tr.get_set, if_pos rfl]
theorem get_other {α : Type} {t : Tr α} {n m : Nat} {a : α} (h : m ≠ n) : (t.set n a).get m = t.get m := by rw [Tr.get_set, if_neg h]

/-- Names below a bound stand as they stood. -/
structure Keep (s s' : St) : Prop where
  next : s.next ≤ s'.next
  get : ∀ n, n < s.next → s'.heap.get n = s.heap.get n

theorem Keep.refl (s : St) : Keep s s := ⟨Nat.le_refl _, fun _ _ => rfl⟩
theorem Keep.trans {s s' s'' : St} (h : Keep s s') (h' : Keep s' s'') : Keep s s'' :=
  ⟨Nat.le_trans h.next h'.next, fun n hn => (h'.get n (Nat.lt_of_lt_of_le hn h.next)).trans (h.get n hn)⟩

def rowG (o : Option AObj) : Option (List Value) := match o with
  | some (.cells cs _ _) => some cs
  | _ => none
def wrG (o : Option AObj) : Option (List Value × Option Nat) := match o with
  | some (.cells cs esz false) => some (cs, esz)
  | _ => none
theorem rowOf_G {n : Nat} : rowOf s n = rowG (s.heap.get n) := (rfl)
theorem wrRow_G {n : Nat} : wrRow s n = wrG (s.heap.get n) := (rfl)
theorem rowG_cells {cs : List Value} {e : Option Nat} {ro : Bool} : rowG (some (.cells cs e ro)) = some cs := (rfl)
theorem wrG_cells {cs : List Value} {e : Option Nat} : wrG (some (.cells cs e false)) = some (cs, e) := (rfl)

theorem setN_one {cs : List Value} {off : Nat} {v : Value} (h : off < cs.length) : setN cs off [v] = some (cs.set off v) := by
  induction cs generalizing off with
  | nil => simp at h
  | cons c cs ih =>
    cases off with
    | zero => unfold setN; cases cs <;> rfl
    | succ off => unfold setN; rw [ih (by simpa using h)]; rfl

theorem setN_nil {cs : List Value} {off : Nat} (h : off ≤ cs.length) : setN cs off [] = some cs := by
  induction cs generalizing off with
  | nil => cases off with
    | zero => rfl
    | succ off => simp at h
  | cons c cs ih =>
    cases off with
    | zero => rfl
    | succ off => unfold setN; rw [ih (by simpa using h)]

theorem setN_all {cs : List Value} {vs : List Value} {off : Nat} (h : off + vs.length ≤ cs.length) : setN cs off vs = some (cs.take off ++ vs ++ cs.drop (off + vs.length)) := by
  induction cs generalizing off vs with
  | nil =>
    simp at h
    obtain ⟨rfl, h⟩ := h
    subst h; rfl
  | cons c cs ih =>
    cases off with
    | zero =>
      cases vs with
      | nil => unfold setN; simp
      | cons v vs =>
        unfold setN
        rw [ih (off := 0) (by simp at h ⊢; omega)]
        simp
    | succ off =>
      unfold setN
      rw [ih (by simp at h ⊢; omega)]
      simp [Nat.add_right_comm]

theorem sameV_int {k : IntKind} {n : Int} : sameV (.int k n) (.int k n) = true := by simp [sameV, sameN]
theorem sameV_bool {b : Bool} : sameV (.bool b) (.bool b) = true := by cases b <;> rfl
theorem sameV_ptr {b o : Nat} : sameV (.pointer (some ⟨b, o, none⟩)) (.pointer (some ⟨b, o, none⟩)) = true := by simp [sameV, sameN, sameA, nat_beq_eq]
theorem sameV_slice {b o l c : Nat} : sameV (.slice (some ⟨b, o, none⟩) l c) (.slice (some ⟨b, o, none⟩) l c) = true := by simp [sameV, sameN, sameA, nat_beq_eq]
theorem sameV_snil {l c : Nat} : sameV (.slice none l c) (.slice none l c) = true := by simp [sameV, sameN, sameA, nat_beq_eq]
theorem sameV_map {n : Nat} : sameV (.map (some n)) (.map (some n)) = true := by simp [sameV, sameN, sameO, nat_beq_eq]
theorem sameV_id {a b : Int} : sameV (.agg #[.int .i64 a, .int .u64 b]) (.agg #[.int .i64 a, .int .u64 b]) = true := by simp [sameV, sameN, sameL]

theorem at_zero {v : Value} {l : List Value} : (v :: l)[0]? = some v := rfl
theorem at_succ {v : Value} {l : List Value} {n : Nat} : (v :: l)[n + 1]? = l[n]? := by simp

attribute [simp] sameV_int sameV_bool sameV_ptr sameV_slice sameV_snil sameV_map sameV_id at_zero at_succ MW_skip MW_seq MW_cond MW_block MW_loop MW_exit MW_ret MW_ops MW_draw thenM_normal thenM_exit thenM_ret blockM_normal blockM_ret blockM_exit blockM_other retM_ret retM_normal resK_some mopK_eq mwK_eq retK_eq oneOr_one oneOr_two oneOr_nil
  mops_nil go_none go_some condA_yes condA_tf condA_ft condA_undef condM_true condM_false mres_nil mres_t mres_cell unK_some consO_some act_i act_call act_chk runK_some callV_fn callV_clo chkK_some mapO_none mapO_some ev_t ev_c ev_f updR_none updR_some rho0_zero rho0_succ
  run_val run_pick pickV_true pickV_false run_nilck nilckV_some run_not notV_bool okV_some run_bin run_lea leaV_some run_fld fldV_agg run_idxA idxV_some run_ld ldV_ptr cutO_some run_st stV_ptr stR_some stB_true setK_some run_alloc_none run_alloc_some run_box_none run_box_some
  run_ext extV_tuple run_lenS lenV_slice run_conv convV_int run_gen run_bld bldO_some bldV_nil bldV_cons bldS_some run_eqv eqvV_eql eqvV_neq
  bin_add bin_sub bin_mul bin_quo bin_rem bin_eql bin_neq bin_lss bin_leq bin_gtr bin_geq bin_shl bin_shr bin_and bin_or cut_one cut_agg aggO_some cellsOf_int cellsOf_bool cellsOf_ptr cellsOf_slice cellsOf_map cellsOf_agg
  sizeIs_dec takeN_zero takeN_succ setN_zero_nil setN_zero_cons setN_succ allV_nil allV_cons isCell_int isCell_bool isCell_ptr isCell_slice isCell_map get_same get_other rowOf_G wrRow_G rowG_cells wrG_cells

end Go.Sh

namespace Go.Sh
open Go

variable {E : Env} {ρ ρ' : Rho} {s s' : St}

theorem runK_mono {r : Option (Value × St)} {K L : Value → St → Prop} (h : runK r K) (hk : ∀ v s, K v s → L v s) : runK r L := by
  unfold runK at h ⊢
  split at h
  · exact hk _ _ h
  · exact h.elim

theorem callV_mono {f : Value} {args : List Value} {K L : Value → St → Prop} (h : callV E f args s K) (hk : ∀ v s, K v s → L v s) : callV E f args s L := by
  unfold callV at h ⊢
  split at h
  · exact h.mono hk
  · exact h.elim

theorem act_mono {nm : Option Nat} {act : MAct} {K L : Value → St → Prop} (h : act.go E nm ρ s K) (hk : ∀ v s, K v s → L v s) : act.go E nm ρ s L := by
  cases act with
  | i m => exact runK_mono (K := K) h hk
  | call f args => exact callV_mono (K := K) h hk
  | chk m d =>
    obtain ⟨u, s', h1, h2, h3⟩ := chkK_iff.1 h
    exact chkK_iff.2 ⟨u, s', h1, h2, hk _ _ h3⟩

theorem mops_mono {base : Nat} {Q R : Rho → St → Prop} (hq : ∀ ρ s, Q ρ s → R ρ s) : ∀ {l : List MOp} {ρ : Rho} {s : St}, mops E base l ρ s Q → mops E base l ρ s R
  | [], ρ, s, h => hq _ _ h
  | o :: l, ρ, s, h => by
    obtain ⟨d, act, gd, nm⟩ := o
    cases gd with
    | none => exact act_mono (K := mopK E base l Q ρ d) h fun v s' h => mops_mono hq h
    | some p =>
      obtain ⟨g, w⟩ := p
      exact ⟨fun hw => act_mono (K := mopK E base l Q ρ d) (h.1 hw) fun v s' h => mops_mono hq h, fun hw => mops_mono hq (h.2 hw)⟩

theorem loopN_mono {b : Rho → St → Post3 → Prop} (hb : ∀ ρ s (Q R : Post3), (∀ e ρ s, Q e ρ s → R e ρ s) → b ρ s Q → b ρ s R) {Q R : Post3} (hq : ∀ e ρ s, Q e ρ s → R e ρ s) :
    ∀ {k : Nat} {ρ : Rho} {s : St}, loopN b k ρ s Q → loopN b k ρ s R
  | 0, _, _, h => h
  | k + 1, ρ, s, h => by
    refine hb ρ s _ _ ?_ h
    intro e ρ' s' h
    cases e with
    | normal => exact loopN_mono hb hq (k := k) h
    | exit i => exact hq _ _ _ h
    | ret => exact hq _ _ _ h

theorem MW_mono : ∀ {c : MC} {ρ : Rho} {s : St} {Q R : Post3}, (∀ e ρ s, Q e ρ s → R e ρ s) → MW E c ρ s Q → MW E c ρ s R := by
  intro c
  induction c with
  | skip => exact fun hq h => hq _ _ _ h
  | exit i => exact fun hq h => hq _ _ _ h
  | ret => exact fun hq h => hq _ _ _ h
  | ops l => exact fun hq h => mops_mono (hq .normal) h
  | draw n l => exact fun hq h => mops_mono (hq .normal) h
  | seq x y ihx ihy =>
    intro ρ s Q R hq h
    refine ihx (Q := thenM (fun ρ' s' => MW E y ρ' s' Q) Q) ?_ h
    intro e ρ' s' h
    cases e with
    | normal => exact ihy hq h
    | exit i => exact hq _ _ _ h
    | ret => exact hq _ _ _ h
  | cond c x y ihx ihy =>
    intro ρ s Q R hq h
    obtain ⟨b, hb, h1, h2⟩ := condK_iff.1 h
    exact condK_iff.2 ⟨b, hb, fun e => ihx hq (h1 e), fun e => ihy hq (h2 e)⟩
  | block id c ih =>
    intro ρ s Q R hq h
    refine ih (Q := blockM id Q) ?_ h
    intro e ρ' s' h
    cases e with
    | normal => exact hq _ _ _ h
    | ret => exact hq _ _ _ h
    | exit j =>
      have h : if j = id then Q .normal ρ' s' else Q (.exit j) ρ' s' := h
      show if j = id then R .normal ρ' s' else R (.exit j) ρ' s'
      by_cases e : j = id
      · rw [if_pos e] at h ⊢; exact hq _ _ _ h
      · rw [if_neg e] at h ⊢; exact hq _ _ _ h
  | loop c ih =>
    intro ρ s Q R hq h
    obtain ⟨k, h⟩ := h
    exact ⟨k, loopN_mono (b := MW E c) (fun ρ s Q R hq h => ih hq h) hq h⟩

/-- A loop that goes round at most so often. -/
theorem loop_rule {c : MC} {Q : Post3} (I : Nat → Rho → St → Prop) (step : ∀ n ρ s, I n ρ s → MW E c ρ s (thenM (fun ρ' s' => ∃ m, n = m + 1 ∧ I m ρ' s') Q)) (n : Nat) (h : I n ρ s) : loopM (MW E c) ρ s Q := by
  refine ⟨n + 1, ?_⟩
  revert ρ s
  induction n with
  | zero =>
    intro ρ s h
    refine MW_mono ?_ (step 0 ρ s h)
    intro e ρ' s' h
    cases e with
    | normal => obtain ⟨m, hm, _⟩ := h; omega
    | exit i => exact h
    | ret => exact h
  | succ n ih =>
    intro ρ s h
    refine MW_mono ?_ (step (n + 1) ρ s h)
    intro e ρ' s' h
    cases e with
    | normal =>
      obtain ⟨m, hm, h⟩ := h
      have : m = n := by omega
      rw [this] at h
      exact ih h
    | exit i => exact h
    | ret => exact h

/-- A loop that is left at once. -/
theorem loop_exit {c : MC} {Q : Post3} (h : MW E c ρ s (thenM (fun _ _ => False) Q)) : loopM (MW E c) ρ s Q := ⟨1, h⟩

end Go.Sh

namespace Go.Sh
open Go

/-- One element, of k cells, into a slice that came of an append. -/
def insP (k : Nat) (as : List Value) (s : St) : Option (Value × St) :=
  match as with
  | [.slice x n c, .int .i64 i, .slice (some ⟨vb, 0, none⟩) 1 1] => match s.heap.get vb with
    | some (.cells vs none false) => cond (Nat.beq vs.length k && allV isWord vs && decide (0 ≤ i ∧ i ≤ n) && decide (n ≤ 4096) && Nat.beq c n)
      (match x with
       | none => cond (Nat.beq n 0) (some (.slice (some ⟨s.next, 0, none⟩) 1 1, { heap := s.heap.set s.next (.cells vs (some k) false), next := s.next + 1 })) none
       | some ⟨b, 0, none⟩ => match s.heap.get b with
         | some (.cells cs (some k') false) => cond (Nat.beq k' k && Nat.beq cs.length (n * k) && !(Nat.beq b vb))
           (some (.slice (some ⟨s.next, 0, none⟩) (n + 1) (n + 1), { heap := (s.heap.del b).set s.next (.cells (cs.take (i.toNat * k) ++ (vs ++ cs.drop (i.toNat * k))) (some k) false), next := s.next + 1 })) none
         | _ => none
       | _ => none) none
    | _ => none
  | _ => none

theorem insP_nil {k vb : Nat} {vs : List Value} {s : St} (hv : s.heap.get vb = some (.cells vs none false)) (hl : vs.length = k) (hw : allV isWord vs = true) :
    insP k [.slice none 0 0, .int .i64 0, .slice (some ⟨vb, 0, none⟩) 1 1] s = some (.slice (some ⟨s.next, 0, none⟩) 1 1, { heap := s.heap.set s.next (.cells vs (some k) false), next := s.next + 1 }) := by
  simp [insP, hv, hl, hw, nat_beq_eq]

theorem insP_some {k n vb b : Nat} {i : Int} {vs cs : List Value} {s : St} (hv : s.heap.get vb = some (.cells vs none false)) (hl : vs.length = k) (hw : allV isWord vs = true) (h0 : 0 ≤ i) (hi : i ≤ n) (hn : n ≤ 4096)
    (hb : s.heap.get b = some (.cells cs (some k) false)) (hc : cs.length = n * k) (hne : b ≠ vb) :
    insP k [.slice (some ⟨b, 0, none⟩) n n, .int .i64 i, .slice (some ⟨vb, 0, none⟩) 1 1] s =
      some (.slice (some ⟨s.next, 0, none⟩) (n + 1) (n + 1), { heap := (s.heap.del b).set s.next (.cells (cs.take (i.toNat * k) ++ (vs ++ cs.drop (i.toNat * k))) (some k) false), next := s.next + 1 }) := by
  simp [insP, hv, hl, hw, h0, hi, hn, hb, hc, hne, nat_beq_eq]

end Go.Sh
